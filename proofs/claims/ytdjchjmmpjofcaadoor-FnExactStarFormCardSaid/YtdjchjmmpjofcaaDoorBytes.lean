/- []byte(s), string(b), rows of bytes: laws. Conditions: none. -/
import Derived.Test.YtdjchjmmpjofcaaDoorStr
import Derived.Test.YtdjchjmmpjofcaaDoorMem
import Derived.Laws.IdiomStrings
import Derived.Laws.BytesArg
namespace Go.Proofs.YtdjchjmmpjofcaaDoor
open Go.RowKit
set_option linter.unusedVariables false

/-- A text of these bytes. -/
def str (l : List UInt8) : ByteArray := ⟨l.toArray⟩
theorem str_data (l : List UInt8) : (str l).data.toList = l := rfl
theorem str_size (l : List UInt8) : (str l).size = l.length := by simp [str, ByteArray.size]
theorem str_of (s : ByteArray) {l : List UInt8} (h : s.data.toList = l) : s = str l := ByteArray.ext (Array.toList_inj.1 h)
theorem data_append (a b : ByteArray) : (a ++ b).data.toList = a.data.toList ++ b.data.toList := by simp [ByteArray.data_append]
theorem data_slice (s : ByteArray) (a b : Nat) : (s.extract a b).data.toList = (s.data.toList.drop a).take (b - a) := Lib.extract_data s a b
theorem data_len (s : ByteArray) : s.data.toList.length = s.size := by simp
theorem data_at (s : ByteArray) (k : Nat) (h : k < s.size) : s.data.toList[k]? = some s[k] := byte_data s k h
theorem data_one (s : ByteArray) (k : Nat) (h : k < s.size) : (s.extract k (k + 1)).data.toList = [s[k]] := by
  rw [data_slice, show k + 1 - k = 1 by omega]
  have h' : k < s.data.toList.length := by rw [data_len]; exact h
  rw [List.drop_eq_getElem_cons h']
  rfl

/-- Bytes as cells. -/
def bcells (bs : List UInt8) : List Value := bs.map fun b => .int .u8 (b.toNat : Int)
theorem bcells_len (bs : List UInt8) : (bcells bs).length = bs.length := by simp [bcells]
theorem bcells_at (bs : List UInt8) (i : Nat) (b : UInt8) (h : bs[i]? = some b) : (bcells bs)[i]? = some (.int .u8 (b.toNat : Int)) := by simp [bcells, h]
theorem bcells_snoc (bs : List UInt8) (b : UInt8) : bcells (bs ++ [b]) = bcells bs ++ [.int .u8 (b.toNat : Int)] := by simp [bcells]

/-- Block g holds these bytes ahead of all, none of them frozen. -/
def BRow (w : World) (g : Nat) (bs : List UInt8) : Prop :=
  ∃ (C : Array Value) (n : Nat), w.heap[g]? = some (.cells C 5 (n, n + 1)) ∧ bs.length ≤ n ∧ bs.length ≤ C.size ∧ ∀ (i : Nat) (b : UInt8), bs[i]? = some b → C[i]? = some (.int .u8 (b.toNat : Int))
theorem BRow.lt {w : World} {g : Nat} {bs : List UInt8} (h : BRow w g bs) : g < w.heap.size := by
  obtain ⟨C, n, h1, _⟩ := h
  rcases Nat.lt_or_ge g w.heap.size with hlt | hge
  · exact hlt
  · rw [Array.getElem?_eq_none hge] at h1; cases h1
theorem BRow.cell {w : World} {g : Nat} {bs : List UInt8} (h : BRow w g bs) (i : Nat) (b : UInt8) (hi : bs[i]? = some b) : w.cell? ⟨g, i, none⟩ = some (.int .u8 (b.toNat : Int)) := by
  obtain ⟨C, n, h1, h2, h3, h4⟩ := h
  have := h4 i b hi
  simp [World.cell?, h1, this]
theorem BRow.frozen {w : World} {g : Nat} {bs : List UInt8} (h : BRow w g bs) (i : Nat) (hi : i < bs.length) : w.frozen? ⟨g, i, none⟩ = false := by
  obtain ⟨C, n, h1, h2, h3, h4⟩ := h
  have : ¬ n ≤ i := by omega
  simp [World.frozen?, h1, this]
theorem BRow.below {w w' : World} {g B : Nat} {bs : List UInt8} (h : BRow w g bs) (hb : Below B w w') (hg : g < B) : BRow w' g bs := by
  obtain ⟨C, n, h1, r⟩ := h
  exact ⟨C, n, (hb.block g hg).trans h1, r⟩
theorem BRow.drewN {w : World} {g : Nat} {bs : List UInt8} (h : BRow w g bs) (k : Nat) : BRow (w.drewN k) g bs := h
theorem BRow.set {w : World} {g : Nat} {bs : List UInt8} (h : BRow w g bs) (i : Nat) (b : UInt8) : BRow (w.setCell ⟨g, i, none⟩ (.int .u8 (b.toNat : Int))) g (bs.set i b) := by
  obtain ⟨C, n, h1, h2, h3, h4⟩ := h
  refine ⟨C.setIfInBounds i (.int .u8 (b.toNat : Int)), n, ?_, by simpa using h2, by simpa using h3, fun j c hj => ?_⟩
  · simp [World.setCell, Array.getElem?_modify, h1]
  · by_cases hij : i = j
    · subst hij
      have hl : i < bs.length := by
        have := (List.getElem?_eq_some_iff.1 hj).1
        simpa using this
      rw [List.getElem?_set_self hl] at hj
      injection hj with hj
      subst hj
      rw [Array.getElem?_setIfInBounds_self_of_lt (by omega)]
    · rw [List.getElem?_set_ne hij] at hj
      rw [Array.getElem?_setIfInBounds_ne hij]
      exact h4 j c hj
theorem BRow.back {w : World} {g c n : Nat} {bs : List UInt8} (h : BRow w g bs) (hn : n = bs.length) :
    (convert 64 9 (.slice (some ⟨g, 0, none⟩) n c)).run Tryd.prog w = .ok (.string (str bs)) w := by
  subst hn
  exact run_convert_bytes_back w _ _ 5 ⟨g, 0, none⟩ c bs Tryd.underlying64 Tryd.underlying5 Tryd.underlying9 fun j hj => by
    rw [add_none, Nat.zero_add]
    exact h.cell j _ (List.getElem?_eq_getElem hj)
/-- What '[]byte(s)' leaves. -/
theorem brow_new (w : World) (s : ByteArray) :
    ∃ (c : Nat) (w' : World), (convert 9 64 (.string s)).run Tryd.prog w = .ok (.slice (some ⟨w.heap.size, 0, none⟩) s.size c) w' ∧ BRow w' w.heap.size s.data.toList ∧ Below w.heap.size w w' ∧ w'.heap.size = w.heap.size + 1 ∧ s.size ≤ c := by
  refine ⟨_, _, run_bytes_of_string w _ _ 5 s Tryd.underlying9 Tryd.underlying64 Tryd.underlying5, ?_, ?_, by simp, ?_⟩
  · refine ⟨bytesRow s (grownCap w s.size 0 5), (bytesRow s (grownCap w s.size 0 5)).size, ?_, ?_, ?_, fun i b hi => ?_⟩
    · show (w.heap.push _)[w.heap.size]? = _
      simp
    · simp [bytesRow]
    · simp [bytesRow]
    · have hl : i < s.data.size := by
        have := (List.getElem?_eq_some_iff.1 hi).1
        simpa using this
      rw [bytesRow_at s _ i hl]
      have : s.data.toList[i]? = some s.data[i] := by rw [Array.getElem?_toList, Array.getElem?_eq_getElem hl]
      rw [this] at hi
      injection hi with hi
      rw [hi]
  · exact ((Below.refl _ _).drew).alloc (Nat.le_refl _) _
  · exact grownCap_ge w s.size 0 5
/-- '[]byte(s)' in a walk. -/
theorem wpList_bytes {w : World} {ops : Array Oper} {rest : List Oper} {o : Oper} {a : Act} {Q : Exit → Act → World → Prop} (hg : o.guard = none) (x : Operand) (s : ByteArray)
    (hop : o.op = Op.convert 9 64 x) (hx : a.eval x = .string s)
    (h : ∀ c w', BRow w' w.heap.size s.data.toList → Below w.heap.size w w' → w'.heap.size = w.heap.size + 1 → s.size ≤ c → wpList Tryd.prog ops Q rest (a.put o.dst (.slice (some ⟨w.heap.size, 0, none⟩) s.size c)) w') :
    wpList Tryd.prog ops Q (o :: rest) a w := by
  obtain ⟨c, w', hr, h1, h2, h3, h4⟩ := brow_new w s
  refine wpList_plain hg fun K hK => ?_
  have hk := hK _ _ (h c w' h1 h2 h3 h4)
  unfold Oper.wp
  simp [execOp, hop, hx, hr, Result.andThen]
  exact hk

theorem infoByte : (Tryd.prog.info? 5).map (fun i => (i.zero, i.size, i.bytes)) = some (some (.int .u8 0), 1, 1) := by kernel_rfl
theorem own_back {w : World} {base : Nat} {A : Option Addr} {n c : Nat} {bs : List UInt8} (h : Own w base 5 (.slice A n c) (bcells bs)) :
    (convert 64 9 (.slice A n c)).run Tryd.prog w = .ok (.string (str bs)) w := by
  have hn := h.len
  rw [bcells_len] at hn
  cases A with
  | none =>
    have h0 : bs = [] := by
      rcases h.2 with ⟨hv, h0⟩ | ⟨g, cap, cur, hv, _⟩
      · rw [bcells_len] at h0; exact List.eq_nil_of_length_eq_zero h0
      · cases hv
    subst h0
    exact run_convert_bytes_nil w _ 5 Tryd.underlying64 Tryd.underlying5 _ _ _ Tryd.underlying9
  | some a =>
    subst hn
    exact run_convert_bytes_back w _ _ 5 a c bs Tryd.underlying64 Tryd.underlying5 Tryd.underlying9 fun j hj => by
      obtain ⟨g, hA, _, _, _, hc, _⟩ := h.at (by rw [bcells_len]; omega)
      injection hA with hA
      subst hA
      rw [add_none, Nat.zero_add]
      exact hc j _ (bcells_at bs j _ (List.getElem?_eq_getElem hj))
/-- 'append(b, x)' at bytes. -/
theorem append_byte {w : World} {ops : Array Oper} {rest : List Oper} {o : Oper} {a : Act} {Q : Exit → Act → World → Prop} (hgd : o.guard = none) (s x : Operand)
    (ho : o.op = .call { callee := .builtin .append, args := #[s, x], argTypes := #[64, 64] })
    (base : Nat) (v : Value) (bs : List UInt8) (hs : a.eval s = v) (hown : Own w base 5 v (bcells bs)) (g : Nat) (u : UInt8) (hx : a.eval x = .slice (some ⟨g, 0, none⟩) 1 1) (hc : w.cell? ⟨g, 0, none⟩ = some (.int .u8 (u.toNat : Int)))
    (hlen : bs.length ≤ 1000000000) (hbase : base ≤ w.heap.size)
    (h : ∀ A c w', Own w' base 5 (.slice A (bs.length + 1) c) (bcells (bs ++ [u])) → Below base w w' → w.grownBy w' v.ownBlock → wpList Tryd.prog ops Q rest (a.put o.dst (.slice A (bs.length + 1) c)) w') :
    wpList Tryd.prog ops Q (o :: rest) a w := by
  refine append_one hgd s x 64 5 (.int .u8 0) 1 ho Tryd.underlying64 infoByte rfl (by omega) base v (bcells bs) hs hown g _ hx hc rfl (by rw [bcells_len]; exact hlen) hbase ?_
  intro A c w' h1 h2 h3
  rw [bcells_len] at h1 ⊢
  refine h A c w' ?_ h2 h3
  rw [bcells_snoc]; exact h1
/-- Texts as cells. -/
def scells (ss : List ByteArray) : List Value := ss.map .string
theorem scells_len (ss : List ByteArray) : (scells ss).length = ss.length := by simp [scells]
theorem scells_at (ss : List ByteArray) (i : Nat) (s : ByteArray) (h : ss[i]? = some s) : (scells ss)[i]? = some (.string s) := by simp [scells, h]
theorem scells_snoc (ss : List ByteArray) (s : ByteArray) : scells (ss ++ [s]) = scells ss ++ [.string s] := by simp [scells]
theorem infoStr : (Tryd.prog.info? 9).map (fun i => (i.zero, i.size, i.bytes)) = some (some (.string ByteArray.empty), 1, 16) := by kernel_rfl
end Go.Proofs.YtdjchjmmpjofcaaDoor
