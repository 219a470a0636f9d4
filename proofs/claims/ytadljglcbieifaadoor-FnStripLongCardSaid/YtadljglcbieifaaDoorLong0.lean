/- How long a strip can be played: the plain law. Conditions: none. -/
import Derived.Test.YtadljglcbieifaaDoorSLaw
namespace Go.Proofs.YtadljglcbieifaaDoor
open Go.RowKit
set_option linter.unusedVariables false

def wsum (f : Nat → UInt8 → Nat) : Nat → List UInt8 → Nat
  | _, [] => 0
  | i, b :: l => f i b + wsum f (i + 1) l
theorem wsum_set (f : Nat → UInt8 → Nat) (i : Nat) (l : List UInt8) (k : Nat) (hk : k < l.length) (b : UInt8) : wsum f i (l.set k b) + f (i + k) l[k] = wsum f i l + f (i + k) b := by
  induction l generalizing i k with
  | nil => simp at hk
  | cons a l ih =>
    cases k with
    | zero => simp [wsum]; omega
    | succ k =>
      have := ih (i + 1) k (by simpa using hk)
      rw [show i + 1 + k = i + (k + 1) by omega] at this
      simp only [List.set_cons_succ, wsum, List.getElem_cons_succ]
      omega
theorem wsum_le (f : Nat → UInt8 → Nat) (m n : Nat) (h : ∀ i b, i < n → f i b ≤ m) (l : List UInt8) (i : Nat) (hi : i + l.length ≤ n) : wsum f i l ≤ m * l.length := by
  induction l generalizing i with
  | nil => simp [wsum]
  | cons a l ih =>
    have h1 := h i a (by simp at hi; omega)
    have h2 := ih (i + 1) (by simp at hi; omega)
    simp only [wsum, List.length_cons, Nat.mul_succ]
    omega
theorem wsum_two (f : Nat → UInt8 → Nat) (l : List UInt8) (k j : Nat) (hk : k < l.length) (hj : j < l.length) (hkj : k ≠ j) (a b : UInt8) :
    wsum f 0 ((l.set k a).set j b) + f k l[k] + f j l[j] = wsum f 0 l + f k a + f j b := by
  have h1 := wsum_set f 0 l k hk a
  have h2 := wsum_set f 0 (l.set k a) j (by simpa using hj) b
  rw [List.getElem_set_ne hkj] at h2
  simp only [Nat.zero_add] at h1 h2
  omega
/-- What a mark weighs. -/
def wt (kind : Int) (n i : Nat) (b : UInt8) : Nat :=
  if kind = 0 then (if b = 84 then n - i else if b = 70 then i else 0)
  else if kind = 1 then (if b = 46 then 0 else 1)
  else (if b = 46 then 1 else 0)
theorem wt_le (kind : Int) (n i : Nat) (b : UInt8) (h : i < n) : wt kind n i b ≤ n := by
  unfold wt
  repeat' split
  all_goals omega
def mu (kind : Int) (s : ByteArray) : Nat := wsum (wt kind s.size) 0 s.data.toList
theorem mu_le (kind : Int) (s : ByteArray) : mu kind s ≤ s.size * s.size := by
  have := wsum_le (wt kind s.size) s.size s.size (fun i b h => wt_le kind _ i b h) s.data.toList 0 (by rw [data_len]; omega)
  rw [data_len] at this
  exact this
theorem str_inj {a b : ByteArray} (h : a.data.toList = b.data.toList) : a = b := by rw [str_of a rfl, h, ← str_of b rfl]
theorem mu_str (kind : Int) (s : ByteArray) (l : List UInt8) (h : l.length = s.size) : mu kind (str l) = wsum (wt kind s.size) 0 l := by
  unfold mu; rw [str_size, str_data, h]
theorem cell_data {s : ByteArray} {k : Nat} (h : k < s.size) : s.data.toList[k]'(by rw [data_len]; exact h) = cellv s k := by
  rw [cellv_in h]
  have := data_at s k h
  rw [List.getElem?_eq_getElem (by rw [data_len]; exact h)] at this
  injection this

def In3 (kind : Int) (n : Nat) (t : ByteArray) : Prop := t.size = n ∧ ∀ b ∈ t.data.toList, b ∈ marksOf kind
theorem in3_of {kind : Int} {s : ByteArray} (h : allIn (marksOf kind) s = true) : In3 kind s.size s := by
  refine ⟨rfl, fun b hb => ?_⟩
  unfold allIn at h
  have := List.all_eq_true.1 h b hb
  simpa using this
theorem in3_allIn {kind : Int} {n : Nat} {s : ByteArray} (h : In3 kind n s) : allIn (marksOf kind) s = true := by
  unfold allIn
  rw [List.all_eq_true]
  intro b hb
  simpa using h.2 b hb
theorem in3_set {kind : Int} {n : Nat} {l : List UInt8} (k : Nat) (b : UInt8) (hb : b ∈ marksOf kind) (h : ∀ b ∈ l, b ∈ marksOf kind) : ∀ c ∈ l.set k b, c ∈ marksOf kind := by
  intro c hc
  rcases List.mem_or_eq_of_mem_set hc with h1 | rfl
  · exact h c h1
  · exact hb

theorem toad_mu {m o : UInt8} {x y : Int} {s t : ByteArray} {k n : Nat} (hs : In3 0 n s) (hk : k < s.size) (hm : (m = 84 ∧ x = 1 ∧ y = 2) ∨ (m = 70 ∧ x = -1 ∧ y = -2)) (h : t ∈ toadAt m o x y s k) : In3 0 n t ∧ mu 0 t < mu 0 s := by
  have key : ∀ d : Int, (d = x ∨ d = y) → cellv s k = m → cellv s (k + d) = 46 → t = str ((s.data.toList.set k 46).set ((k : Int) + d).toNat m) → In3 0 n t ∧ mu 0 t < mu 0 s := by
    intro d hd h1 h2 ht
    obtain ⟨hp, hq⟩ := cellv_pos h2 (by decide)
    obtain ⟨j, hj⟩ := Int.eq_ofNat_of_zero_le hp
    rw [hj] at h2 ht hq
    simp only [Int.toNat_natCast] at ht
    have hjn : j < s.size := by omega
    have hne : k ≠ j := by omega
    have hsz := data_len s
    have e := wsum_two (wt 0 s.size) s.data.toList k j (by rw [hsz]; exact hk) (by rw [hsz]; exact hjn) hne 46 m
    rw [cell_data hk, cell_data hjn, h1, h2] at e
    have w0 : ∀ i, wt 0 s.size i 46 = 0 := by intro i; simp [wt]
    rw [w0, w0] at e
    refine ⟨⟨?_, ?_⟩, ?_⟩
    · rw [ht, str_size]; simp only [List.length_set, hsz]; exact hs.1
    · rw [ht, str_data]
      refine in3_set (kind := 0) (n := n) j m ?_ (in3_set (kind := 0) (n := n) k 46 (by decide) hs.2)
      rcases hm with ⟨rfl, _⟩ | ⟨rfl, _⟩ <;> decide
    · rw [ht, mu_str 0 s _ (by simp only [List.length_set, hsz])]
      unfold mu
      rcases hm with ⟨rfl, rfl, rfl⟩ | ⟨rfl, rfl, rfl⟩
      · have w1 : ∀ i, wt 0 s.size i 84 = s.size - i := by intro i; simp [wt]
        rw [w1, w1] at e
        omega
      · have w1 : ∀ i, wt 0 s.size i 70 = i := by intro i; simp [wt]
        rw [w1, w1] at e
        omega
  unfold toadAt at h
  split at h
  · rename_i h1
    split at h
    · rename_i h2
      exact key x (.inl rfl) h1 h2 (by simpa using h)
    · split at h
      · rename_i h3
        exact key y (.inr rfl) h1 h3.2 (by simpa using h)
      · simp at h
  · simp at h
theorem clob_mu {m o : UInt8} {st : Int} {s t : ByteArray} {k n : Nat} (hs : In3 1 n s) (hk : k < s.size) (hst : st ≠ k) (hm : m ≠ 46) (ho : o ≠ 46) (ho0 : o ≠ 0) (hmm : m ∈ marksOf 1) (h : t ∈ clobAt m o st s k) : In3 1 n t ∧ mu 1 t < mu 1 s := by
  unfold clobAt at h
  split at h
  · rename_i h1
    obtain ⟨h1, h2⟩ := h1
    obtain ⟨hp, hq⟩ := cellv_pos h2 ho0
    obtain ⟨j, hj⟩ := Int.eq_ofNat_of_zero_le hp
    have ht : t = str ((s.data.toList.set k 46).set st.toNat m) := by simpa using h
    rw [hj] at h2 ht hq hst
    simp only [Int.toNat_natCast] at ht
    have hjn : j < s.size := by omega
    have hne : k ≠ j := by omega
    have hsz := data_len s
    have e := wsum_two (wt 1 s.size) s.data.toList k j (by rw [hsz]; exact hk) (by rw [hsz]; exact hjn) hne 46 m
    rw [cell_data hk, cell_data hjn, h1, h2] at e
    have w0 : ∀ i, wt 1 s.size i 46 = 0 := by intro i; simp [wt]
    have w1 : ∀ i, wt 1 s.size i m = 1 := by intro i; simp [wt, hm]
    have w2 : ∀ i, wt 1 s.size i o = 1 := by intro i; simp [wt, ho]
    rw [w0, w1, w1, w2] at e
    refine ⟨⟨?_, ?_⟩, ?_⟩
    · rw [ht, str_size]; simp only [List.length_set, hsz]; exact hs.1
    · rw [ht, str_data]
      exact in3_set (kind := 1) (n := n) j m hmm (in3_set (kind := 1) (n := n) k 46 (by decide) hs.2)
    · rw [ht, mu_str 1 s _ (by simp only [List.length_set, hsz])]
      unfold mu
      omega
  · simp at h
theorem mark_mu {kind : Int} (hk0 : kind ≠ 0) (hk1 : kind ≠ 1) {m o : UInt8} {s t : ByteArray} {k n : Nat} (hs : In3 kind n s) (hk : k < s.size) (hm : m ≠ 46) (hmm : m ∈ marksOf kind) (h : t ∈ markAt m o s k) : In3 kind n t ∧ mu kind t < mu kind s := by
  unfold markAt at h
  split at h
  · rename_i h1
    obtain ⟨h1, _⟩ := h1
    have ht : t = str (s.data.toList.set k m) := by simpa using h
    have hsz := data_len s
    have e := wsum_set (wt kind s.size) 0 s.data.toList k (by rw [hsz]; exact hk) m
    rw [cell_data hk, h1] at e
    have w0 : ∀ i, wt kind s.size i 46 = 1 := by intro i; simp [wt, hk0, hk1]
    have w1 : ∀ i, wt kind s.size i m = 0 := by intro i; simp [wt, hk0, hk1, hm]
    rw [w0, w1] at e
    refine ⟨⟨?_, ?_⟩, ?_⟩
    · rw [ht, str_size]; simp only [List.length_set, hsz]; exact hs.1
    · rw [ht, str_data]
      exact in3_set (kind := kind) (n := n) k m hmm hs.2
    · rw [ht, mu_str kind s _ (by simp only [List.length_set, hsz])]
      unfold mu
      omega
  · simp at h
theorem moves_mu {kind : Int} (h1 : 0 ≤ kind) (h2 : kind ≤ 3) {left : Bool} {s t : ByteArray} {n : Nat} (hs : In3 kind n s) (h : t ∈ movesL kind left s) : In3 kind n t ∧ mu kind t < mu kind s := by
  unfold movesL acc at h
  rw [List.mem_flatMap] at h
  obtain ⟨k, hk, h⟩ := h
  rw [List.mem_range] at hk
  rcases four h1 h2 with rfl | rfl | rfl | rfl <;> cases left
  · exact toad_mu hs hk (.inr ⟨rfl, rfl, rfl⟩) h
  · exact toad_mu hs hk (.inl ⟨rfl, rfl, rfl⟩) h
  · have h' : t ∈ clobBoth 82 76 s k := h
    rcases List.mem_append.1 h' with h'' | h''
    · exact clob_mu hs hk (by omega) (by decide) (by decide) (by decide) (by decide) h''
    · exact clob_mu hs hk (by omega) (by decide) (by decide) (by decide) (by decide) h''
  · have h' : t ∈ clobBoth 76 82 s k := h
    rcases List.mem_append.1 h' with h'' | h''
    · exact clob_mu hs hk (by omega) (by decide) (by decide) (by decide) (by decide) h''
    · exact clob_mu hs hk (by omega) (by decide) (by decide) (by decide) (by decide) h''
  · exact mark_mu (by decide) (by decide) hs hk (m := 82) (o := 82) (by decide) (by decide) h
  · exact mark_mu (by decide) (by decide) hs hk (m := 76) (o := 76) (by decide) (by decide) h
  · exact mark_mu (by decide) (by decide) hs hk (m := 82) (o := 76) (by decide) (by decide) h
  · exact mark_mu (by decide) (by decide) hs hk (m := 76) (o := 82) (by decide) (by decide) h

/-- The greatest of one more than g. -/
def mxs (g : ByteArray → Nat) (ts : List ByteArray) : Nat := ts.foldl (fun n t => max n (1 + g t)) 0
theorem mxs_nil (g : ByteArray → Nat) : mxs g [] = 0 := rfl
theorem mxs_snoc (g : ByteArray → Nat) (ts : List ByteArray) (t : ByteArray) : mxs g (ts ++ [t]) = max (mxs g ts) (1 + g t) := by simp [mxs]
theorem mxs_congr_aux (g h : ByteArray → Nat) (ts : List ByteArray) (n : Nat) (e : ∀ t ∈ ts, g t = h t) : ts.foldl (fun n t => max n (1 + g t)) n = ts.foldl (fun n t => max n (1 + h t)) n := by
  induction ts generalizing n with
  | nil => rfl
  | cons a ts ih =>
    simp only [List.foldl_cons]
    rw [e a (by simp)]
    exact ih _ fun t ht => e t (by simp [ht])
theorem mxs_congr (g h : ByteArray → Nat) (ts : List ByteArray) (e : ∀ t ∈ ts, g t = h t) : mxs g ts = mxs h ts := mxs_congr_aux g h ts 0 e
theorem mxs_le_aux (g : ByteArray → Nat) (ts : List ByteArray) (n m : Nat) (hn : n ≤ m) (h : ∀ t ∈ ts, 1 + g t ≤ m) : ts.foldl (fun n t => max n (1 + g t)) n ≤ m := by
  induction ts generalizing n with
  | nil => exact hn
  | cons a ts ih =>
    simp only [List.foldl_cons]
    have := h a (by simp)
    exact ih _ (by omega) fun t ht => h t (by simp [ht])
theorem mxs_le (g : ByteArray → Nat) (ts : List ByteArray) (m : Nat) (h : ∀ t ∈ ts, 1 + g t ≤ m) : mxs g ts ≤ m := mxs_le_aux g ts 0 m (Nat.zero_le _) h
theorem mxs_ge_aux (g : ByteArray → Nat) (ts : List ByteArray) (n : Nat) : n ≤ ts.foldl (fun n t => max n (1 + g t)) n := by
  induction ts generalizing n with
  | nil => exact Nat.le_refl _
  | cons a ts ih => simp only [List.foldl_cons]; have := ih (max n (1 + g a)); omega
theorem mxs_mem_aux (g : ByteArray → Nat) (ts : List ByteArray) (n : Nat) (t : ByteArray) (ht : t ∈ ts) : 1 + g t ≤ ts.foldl (fun n t => max n (1 + g t)) n := by
  induction ts generalizing n with
  | nil => simp at ht
  | cons a ts ih =>
    simp only [List.foldl_cons]
    rcases List.mem_cons.1 ht with rfl | ht
    · have := mxs_ge_aux g ts (max n (1 + g t)); omega
    · exact ih _ ht
theorem mxs_mem (g : ByteArray → Nat) (ts : List ByteArray) (t : ByteArray) (ht : t ∈ ts) : 1 + g t ≤ mxs g ts := mxs_mem_aux g ts 0 t ht

def both (kind : Int) (s : ByteArray) : List ByteArray := movesL kind true s ++ movesL kind false s
def lgF (kind : Int) : Nat → ByteArray → Nat
  | 0, _ => 0
  | f + 1, s => mxs (lgF kind f) (both kind s)
/-- How long a strip can be played. -/
def lg (kind : Int) (s : ByteArray) : Nat := lgF kind (mu kind s + 1) s
theorem both_mu {kind : Int} (h1 : 0 ≤ kind) (h2 : kind ≤ 3) {s t : ByteArray} {n : Nat} (hs : In3 kind n s) (h : t ∈ both kind s) : In3 kind n t ∧ mu kind t < mu kind s := by
  unfold both at h
  rcases List.mem_append.1 h with h | h
  · exact moves_mu h1 h2 hs h
  · exact moves_mu h1 h2 hs h
theorem lgF_eq {kind : Int} (h1 : 0 ≤ kind) (h2 : kind ≤ 3) {n : Nat} (f : Nat) : ∀ (g : Nat) (s : ByteArray), In3 kind n s → mu kind s < f → mu kind s < g → lgF kind f s = lgF kind g s := by
  induction f with
  | zero => intro g s _ h; omega
  | succ f ih =>
    intro g s hs hf hg
    obtain ⟨g, rfl⟩ : ∃ g', g = g' + 1 := ⟨g - 1, by omega⟩
    show mxs _ _ = mxs _ _
    refine mxs_congr _ _ _ fun t ht => ?_
    obtain ⟨h3, h4⟩ := both_mu h1 h2 hs ht
    exact ih g t h3 (by omega) (by omega)
theorem lg_eq {kind : Int} (h1 : 0 ≤ kind) (h2 : kind ≤ 3) {n : Nat} {s : ByteArray} (hs : In3 kind n s) : lg kind s = mxs (lg kind) (both kind s) := by
  show mxs _ _ = mxs _ _
  refine mxs_congr _ _ _ fun t ht => ?_
  obtain ⟨h3, h4⟩ := both_mu h1 h2 hs ht
  exact lgF_eq h1 h2 _ _ t h3 h4 (Nat.lt_succ_self _)
theorem lg_le {kind : Int} (h1 : 0 ≤ kind) (h2 : kind ≤ 3) {n : Nat} (m : Nat) : ∀ s : ByteArray, In3 kind n s → mu kind s ≤ m → lg kind s ≤ mu kind s := by
  induction m with
  | zero =>
    intro s hs hm
    rw [lg_eq h1 h2 hs]
    refine mxs_le _ _ _ fun t ht => ?_
    have := (both_mu h1 h2 hs ht).2
    omega
  | succ m ih =>
    intro s hs hm
    rw [lg_eq h1 h2 hs]
    refine mxs_le _ _ _ fun t ht => ?_
    obtain ⟨h3, h4⟩ := both_mu h1 h2 hs ht
    have := ih t h3 (by omega)
    omega
theorem lg_le49 {kind : Int} (h1 : 0 ≤ kind) (h2 : kind ≤ 3) {n : Nat} {s : ByteArray} (hs : In3 kind n s) (hn : n ≤ 7) : lg kind s ≤ 49 := by
  have h3 := lg_le h1 h2 _ s hs (Nat.le_refl _)
  have h4 := mu_le kind s
  rw [hs.1] at h4
  have : n * n ≤ 7 * 7 := Nat.mul_le_mul hn hn
  omega
theorem lg_zero {kind : Int} (h1 : 0 ≤ kind) (h2 : kind ≤ 3) {n : Nat} {s : ByteArray} (hs : In3 kind n s) : lg kind s = 0 ↔ (movesL kind true s).length = 0 ∧ (movesL kind false s).length = 0 := by
  rw [lg_eq h1 h2 hs]
  constructor
  · intro h
    have : ∀ t, t ∉ both kind s := fun t ht => by have := mxs_mem (lg kind) _ t ht; omega
    have hb : both kind s = [] := List.eq_nil_iff_forall_not_mem.2 this
    unfold both at hb
    rw [List.append_eq_nil_iff] at hb
    rw [hb.1, hb.2]; exact ⟨rfl, rfl⟩
  · intro ⟨h3, h4⟩
    unfold both
    rw [List.eq_nil_of_length_eq_zero h3, List.eq_nil_of_length_eq_zero h4]; rfl

theorem nodup_len {α : Type} [DecidableEq α] : ∀ (xs ys : List α), xs.Nodup → (∀ x ∈ xs, x ∈ ys) → xs.length ≤ ys.length
  | [], _, _, _ => Nat.zero_le _
  | a :: xs, ys, hn, h => by
    have ha : a ∈ ys := h a (by simp)
    rw [List.nodup_cons] at hn
    have h2 := nodup_len xs (ys.erase a) hn.2 fun x hx => (List.mem_erase_of_ne fun e => hn.1 (by rw [← e]; exact hx)).2 (h x (by simp [hx]))
    have h3 := List.length_erase_of_mem ha
    have h4 : 0 < ys.length := List.length_pos_of_mem ha
    simp only [List.length_cons]
    omega
def words (al : List UInt8) : Nat → List (List UInt8)
  | 0 => [[]]
  | n + 1 => al.flatMap fun a => (words al n).map (a :: ·)
theorem words_len (al : List UInt8) (n : Nat) : (words al n).length = al.length ^ n := by
  induction n with
  | zero => rfl
  | succ n ih =>
    have : ∀ l : List UInt8, (l.flatMap fun a => (words al n).map (a :: ·)).length = l.length * al.length ^ n := by
      intro l
      induction l with
      | nil => simp
      | cons a l ihl => rw [List.flatMap_cons, List.length_append, ihl, List.length_map, ih, List.length_cons, Nat.add_mul]; omega
    show (al.flatMap _).length = _
    rw [this, Nat.pow_succ, Nat.mul_comm]
theorem words_mem (al : List UInt8) : ∀ l : List UInt8, (∀ b ∈ l, b ∈ al) → l ∈ words al l.length
  | [], _ => by simp [words]
  | a :: l, h => by
    show a :: l ∈ al.flatMap _
    rw [List.mem_flatMap]
    exact ⟨a, h a (by simp), List.mem_map.2 ⟨l, words_mem al l fun b hb => h b (by simp [hb]), rfl⟩⟩
theorem few {kind : Int} {n : Nat} (hn : n ≤ 7) (K : List ByteArray) (hd : K.Nodup) (h : ∀ t ∈ K, In3 kind n t) : K.length ≤ 2187 := by
  have h1 := nodup_len (K.map fun t => t.data.toList) (words (marksOf kind) n) ?_ ?_
  · rw [List.length_map, words_len] at h1
    have h2 : (marksOf kind).length = 3 := by unfold marksOf; split <;> rfl
    rw [h2] at h1
    have h3 : 3 ^ n ≤ 3 ^ 7 := Nat.pow_le_pow_right (by decide) hn
    have h4 : 3 ^ 7 = 2187 := by decide
    omega
  · rw [List.Nodup, List.pairwise_map]
    exact hd.imp fun hne e => hne (str_inj e)
  · intro x hx
    obtain ⟨t, ht, rfl⟩ := List.mem_map.1 hx
    obtain ⟨h3, h4⟩ := h t ht
    have := words_mem (marksOf kind) t.data.toList h4
    rw [data_len, h3] at this
    exact this
end Go.Proofs.YtadljglcbieifaaDoor
