/- The laws' own helpers on boards: toStringS, szStringS, toBoard, szBoard, eqBoard, by contracts. Conditions: none. -/
import Derived.Test.YtadljglcbieifaaDoorSEq
import Derived.Test.YtadljglcbieifaaDoorSl
import Derived.Deep.RegionHeld3
namespace Go.Proofs.YtadljglcbieifaaDoor
open Go.RowKit
set_option linter.unusedVariables false

theorem make_strs {w : World} {ops : Array Oper} {rest : List Oper} {o : Oper} {a : Act} {Q : Exit → Act → World → Prop} (hg : o.guard = none) (l c : Operand)
    (hop : o.op = Op.makeSlice 53 l c) (n : Nat) (hl : a.eval l = .int .i64 n) (hc : a.eval c = .int .i64 n) (hb : n ≤ 1000000000000)
    (hK : ∀ w', Own w' w.heap.size 9 (.slice (some ⟨w.heap.size, 0, none⟩) n n) (scells (List.replicate n ByteArray.empty)) → Below w.heap.size w w' → w.heap.size < w'.heap.size →
      wpList Tryd.prog ops Q rest (a.put o.dst (.slice (some ⟨w.heap.size, 0, none⟩) n n)) w') :
    wpList Tryd.prog ops Q (o :: rest) a w := by
  obtain ⟨i0, hi, hz0, hz1, hz2⟩ := info_parts infoStr
  refine wpList_make_full w hg l c 53 hop w.heap.size 9 i0 (.string ByteArray.empty) 1 Tryd.underlying53 hi hz0 hz1 .i64 .i64 n n n hl hc rfl rfl (by rw [hz2]; omega) (by unfold maxLen; omega) (Nat.le_refl _) ?_
  intro w' ho hgr
  have e : (madeCells (Value.string ByteArray.empty).cells (n * 1)).toList = scells (List.replicate n ByteArray.empty) := by
    simp [madeCells, scells, Value.cells, Nat.mod_one, List.map_const']
  rw [e] at ho
  refine hK w' (by unfold Own; rw [scells_len, List.length_replicate]; exact ho) (below_of_grown hgr) ((ho.lt _ rfl).2)

/-- New texts are handed back; nothing that was there has turned. -/
def RetR (w : World) (ss : List ByteArray) (e : Ending) (w' : World) : Prop :=
  ∃ A c, e = .returned (.slice A ss.length c) ∧ Own w' w.heap.size 9 (.slice A ss.length c) (scells ss) ∧ Below w.heap.size w w'
set_option maxHeartbeats 400000 in
theorem toStr_any (A : Option Addr) (c : Nat) (ss : List ByteArray) (w : World) (B : Nat) (hB : B ≤ w.heap.size) (h : Rd w B A c (scells ss)) (hn : ss.length ≤ 1048576) :
    Calls Tryd.prog 97 #[.slice A ss.length c] w (RetR w ss) := by
  have h1 := h.len
  have h2 := h.max
  rw [scells_len] at h1
  go_enter Tryd.func97, Tryd.ntmps97
  go_wp2_with (at_make; refine make_strs rfl _ _ rfl ss.length rfl rfl (by omega) ?_; intro w1 ho1 hb1 hz1)
  go_loopw [4] (fun i wr => ∃ k : Nat, i = .int .i64 k ∧ k ≤ ss.length ∧ wr.ownsRow w.heap.size 9 1 (.slice (some ⟨w.heap.size, 0, none⟩) ss.length ss.length) ss.length ((scells ss).take k ++ List.replicate (ss.length - k) (.string ByteArray.empty)) ∧ Below w.heap.size w wr ∧ w.heap.size < wr.heap.size)
    (fun i _ => ss.length - (intOf i).toNat)
  case atStart =>
    refine ⟨0, rfl, by omega, ?_, hb1, hz1⟩
    have := ho1
    unfold Own at this
    rw [scells_len, List.length_replicate] at this
    simpa [scells] using this
  case round =>
    clear ho1 hb1 hz1
    obtain ⟨k, rfl, hk, ho, hb, hz⟩ := hrel
    by_cases hlt : k < ss.length
    · obtain ⟨b, o, rfl, hbB, hc⟩ := (h.below hb hB).at (j := k) (by rw [scells_len]; exact hlt)
      have hc1 := hc k _ (gs_at ss k hlt)
      clear hc
      have hs := ho.stored k (.string (gs ss k))
      have hcell : wr.cell? ⟨w.heap.size, k, none⟩ = some (((scells ss).take k ++ List.replicate (ss.length - k) (Value.string ByteArray.empty)).getD k (.string ByteArray.empty)) := by
        rw [ho.cellAt k (by omega)]
        have hl : k < ((scells ss).take k ++ List.replicate (ss.length - k) (Value.string ByteArray.empty)).length := by
          simp [scells]; omega
        rw [List.getD_eq_getElem?_getD, List.getElem?_eq_getElem hl]; rfl
      have hfr := ho.frozenAt k
      rw [set_step (scells ss) _ _ _ k hlt (gs_at ss k hlt)] at hs
      have HS := Lib.hid hs; clear hs
      go_wp2
      go_roundw
      case rel => exact ⟨k + 1, by go_num, by omega, HS.out.1, hb.setCell (Nat.le_refl _) _, by simpa using hz⟩
      case measure => simp [intOf]; omega
    · obtain rfl : k = ss.length := by omega
      go_wp2
      go_ret
      refine ⟨_, _, rfl, ?_, hb⟩
      unfold Own
      have e : (scells ss).take ss.length ++ List.replicate (ss.length - ss.length) (Value.string ByteArray.empty) = scells ss := by
        rw [List.take_of_length_le (by rw [scells_len]; omega)]; simp
      rw [e] at ho
      rw [scells_len]
      exact ho

/-- What the walk is told of a slice of texts that came in. -/
def IsStrs (w : World) (a : Option Addr) (len cap : Nat) (ss : List ByteArray) : Prop :=
  (a = none ∧ len = 0 ∧ cap = 0 ∧ ss = []) ∨
  ∃ x, a = some x ∧ len ≤ cap ∧ cap ≤ maxLen ∧ ss.length = cap ∧ (∀ i, i < ss.length → w.cell? (x.add i) = some (.string (ss.getD i ByteArray.empty))) ∧ ∀ s ∈ ss, s.size ≤ maxLen
theorem IsStrs.rd {w : World} {a : Option Addr} {len cap : Nat} {ss : List ByteArray} (h : IsStrs w a len cap ss) :
    Rd w w.heap.size a cap (scells (ss.take len)) ∧ (ss.take len).length = len ∧ ∀ j, j < (ss.take len).length → (gs (ss.take len) j).size ≤ 9223372036854775807 := by
  rcases h with ⟨rfl, rfl, rfl, rfl⟩ | ⟨x, rfl, hl, hm, hz, hc, hw⟩
  · exact ⟨Rd.nil, rfl, fun j hj => absurd hj (by simp)⟩
  · have hlen : (ss.take len).length = len := by rw [List.length_take]; omega
    refine ⟨⟨by rw [scells_len]; omega, hm, fun h => by simp at h, fun j hj => ?_⟩, hlen, fun j hj => ?_⟩
    · have h0 := hc 0 (by rw [scells_len] at hj; omega)
      obtain ⟨b, o, spot⟩ := x
      have hsp : spot = none := by simpa [Addr.add] using World.cell?_spot h0
      subst hsp
      have hlt : b < w.heap.size := by
        rcases Nat.lt_or_ge b w.heap.size with h' | h'
        · exact h'
        · simp [Addr.add, World.cell?, Array.getElem?_eq_none h'] at h0
      refine ⟨b, o, rfl, hlt, fun i u hi => ?_⟩
      have hil : i < len := by
        rcases Nat.lt_or_ge i (scells (ss.take len)).length with h' | h'
        · rw [scells_len] at h'; omega
        · rw [List.getElem?_eq_none h'] at hi; cases hi
      have h1 := hc i (by omega)
      rw [add_none] at h1
      rw [h1, ← hi]
      have : i < ss.length := by omega
      simp [scells, List.getElem?_take_of_lt hil, this]
    · have h' : j < len := by omega
      have hjl : j < ss.length := by omega
      have e : gs (ss.take len) j = ss[j] := by simp [gs, List.getElem?_take_of_lt h', hjl]
      rw [e]
      have := hw _ (List.getElem_mem hjl)
      unfold maxLen at this
      exact this
/-- All texts together are short. -/
def Short (ss : List ByteArray) : Prop := ∀ j, j < ss.length → (gs ss j).size ≤ 1048576
set_option maxHeartbeats 400000 in
theorem szStr_any (A : Option Addr) (c : Nat) (ss : List ByteArray) (w : World) (B : Nat) (hB : B ≤ w.heap.size) (h : Rd w B A c (scells ss)) (hm : Hid (∀ j, j < ss.length → (gs ss j).size ≤ 9223372036854775807)) :
    Calls Tryd.prog 94 #[.slice A ss.length c, .int .i64 1048576] w fun e w' => (∃ m : Int, e = .returned (.int .i64 m) ∧ (m < 0 ∨ 0 ≤ m ∧ ss.length ≤ 1048576 ∧ Short ss)) ∧ w = w' := by
  have h1 := h.len
  have h2 := h.max
  rw [scells_len] at h1
  by_cases hbig : (ss.length : Int) ≤ 1048576
  · go_enter Tryd.func94, Tryd.ntmps94
    go_wp2
    go_loop [1, 5] (fun l i => ∃ (k : Nat) (m : Int), i = .int .i64 k ∧ l = .int .i64 m ∧ 0 ≤ m ∧ m ≤ 1048576 ∧ k ≤ ss.length ∧ ∀ j, j < k → (gs ss j).size ≤ 1048576) (fun _ i => ss.length - (intOf i).toNat)
    case atStart => exact ⟨0, _, rfl, rfl, by omega, by omega, by omega, fun j hj => absurd hj (by omega)⟩
    case round =>
      obtain ⟨k, m, rfl, rfl, hm0, hm1, hk, hr⟩ := hrel
      have HR := Lib.hid hr; clear hr
      by_cases hlt : k < ss.length
      · obtain ⟨b, o, rfl, hbB, hc⟩ := h.at (j := k) (by rw [scells_len]; exact hlt)
        have hc1 := hc k _ (gs_at ss k hlt)
        clear hc
        have hsz := hm.out k hlt
        by_cases hneg : m - (gs ss k).size < 0
        · go_wp2
          go_ret
          exact ⟨⟨_, rfl, .inl (by decide)⟩, rfl⟩
        · have HK : Hid ((gs ss k).size ≤ 1048576) := by show _ ≤ _; omega
          go_wp2
          go_round
          case rel => exact ⟨k + 1, _, by go_num, rfl, by omega, by omega, by omega, fun j hj => if hjk : j = k then by rw [hjk]; exact HK.out else HR.out j (by omega)⟩
          case measure => simp [intOf]; omega
      · have HS : Hid (Short ss) := by show Short ss; exact fun j hj => HR.out j (by omega)
        go_wp2
        go_ret
        exact ⟨⟨m, rfl, .inr ⟨hm0, by omega, HS.out⟩⟩, rfl⟩
  · go_enter Tryd.func94, Tryd.ntmps94
    go_wp2
    go_ret
    exact ⟨⟨_, rfl, .inl (by decide)⟩, rfl⟩
set_option maxHeartbeats 400000 in
theorem szBoard_any (A : Option Addr) (c : Nat) (ss : List ByteArray) (w : World) (B : Nat) (hB : B ≤ w.heap.size) (h : Rd w B A c (scells ss)) (hm : Hid (∀ j, j < ss.length → (gs ss j).size ≤ 9223372036854775807)) :
    Calls Tryd.prog 36 #[.agg #[.slice A ss.length c], .int .i64 1048576] w fun e w' => (∃ m : Int, e = .returned (.int .i64 m) ∧ (m < 0 ∨ 0 ≤ m ∧ ss.length ≤ 1048576 ∧ Short ss)) ∧ Below w.heap.size w w' := by
  go_enter Tryd.func36, Tryd.ntmps36
  go_wp2_with fail
  have hzW : w.heap.size < (w.alloc (.cells #[.slice A ss.length c] 55)).heap.size := by simp
  have hAW : Below w.heap.size w (w.alloc (.cells #[.slice A ss.length c] 55)) := (Below.refl _ _).alloc (Nat.le_refl _) _
  have c0W : (w.alloc (.cells #[.slice A ss.length c] 55)).cell? ⟨w.heap.size, 0, none⟩ = some (.slice A ss.length c) := by simp [go_sem]
  generalize w.alloc (.cells #[.slice A ss.length c] 55) = W at *
  refine (szStr_any A c ss W B (by omega) (h.below hAW hB) hm).mono ?_; rintro e w1 ⟨⟨m, rfl, hmm⟩, rfl⟩
  have HM := Lib.hid hmm; clear hmm
  by_cases hneg : m < 0
  · go_wp2
    go_ret
    exact ⟨⟨_, rfl, .inl (by decide)⟩, hAW⟩
  · go_wp2
    go_ret
    exact ⟨⟨m, rfl, HM.out⟩, hAW⟩

/-- A new board is handed back. -/
def RetBd (w : World) (ss : List ByteArray) (e : Ending) (w' : World) : Prop :=
  ∃ A c, e = .returned (.agg #[.slice A ss.length c]) ∧ Own w' w.heap.size 9 (.slice A ss.length c) (scells ss) ∧ Below w.heap.size w w'
theorem Own.far' {w : World} {base : Nat} {E : TypeId} {v : Value} {cs : List Value} (h : Own w base E v cs) (p : Addr) (u : Value) (hp : p.block < base) : Own (w.setCell p u) base E v cs :=
  h.far p u fun e => by have := (h.lt _ e).1; omega
set_option maxHeartbeats 800000 in
theorem toBoard_any (A : Option Addr) (c : Nat) (ss : List ByteArray) (w : World) (B : Nat) (hB : B ≤ w.heap.size) (h : Rd w B A c (scells ss)) (hn : ss.length ≤ 1048576) :
    Calls Tryd.prog 38 #[.agg #[.slice A ss.length c]] w (RetBd w ss) := by
  go_enter Tryd.func38, Tryd.ntmps38
  go_wp2_with fail
  obtain ⟨W, hW⟩ : ∃ W, W = ((w.alloc (.cells #[.slice A ss.length c] 55)).alloc (.cells #[.slice none 0 0] 60)).alloc (.cells #[.slice none 0 0] 60) := ⟨_, rfl⟩
  have e1 : Blk W (w.heap.size + 1) 60 #[.slice none 0 0] := by rw [hW]; exact (Blk.new_at (w.alloc _) _ _ (by simp)).alloc _
  have e2 : Blk W (w.heap.size + 1 + 1) 60 #[.slice none 0 0] := by rw [hW]; exact Blk.new_at _ _ _ (by simp)
  have hbW : Below w.heap.size w W := by rw [hW]; first | exact bel1 _ _ | exact bel2 _ _ _ | exact bel3 _ _ _ _
  have hzW : w.heap.size + 3 ≤ W.heap.size := by rw [hW]; simp
  have hr : Rd W B A c (scells ss) := h.below hbW hB
  first | rw [← hW] | (show Calls _ _ _ _ _; rw [← hW])
  clear hW
  refine (toStr_any A c ss W B (by omega) hr hn).mono ?_; rintro e w1 ⟨A1, c1, rfl, ho1, hb1⟩
  have f1 := e1.below hb1 (by omega)
  have f2 := e2.below hb1 (by omega)
  have q10 : w1.cell? ⟨w.heap.size + 1, 0, none⟩ = some (.slice none 0 0) := f1.cell 0
  have q20 : w1.cell? ⟨w.heap.size + 1 + 1, 0, none⟩ = some (.slice none 0 0) := f2.cell 0
  have z10 := f1.frozen 0
  have z20 := f2.frozen 0
  have hz1 := hb1.size
  go_wp2
  refine bodyPost_ret (v := .agg #[.slice A1 ss.length c1]) (by simp [results, Tryd.results38, go_sem, q10]) rfl ⟨A1, c1, rfl, ?_, ?_⟩
  · refine Own.le ?_ (show w.heap.size ≤ W.heap.size by omega)
    repeat (first | exact ho1 | refine Own.far' ?_ _ _ (by dsimp only; omega))
  · repeat (first | exact hbW.trans (hb1.mono (by omega)) | refine Below.setCell ?_ (by dsimp only; omega) _)

set_option maxHeartbeats 400000 in
theorem eqBoard_same (A A' : Option Addr) (c c' : Nat) (ss : List ByteArray) (w : World) (B : Nat) (hB : B ≤ w.heap.size) (h : Rd w B A c (scells ss)) (h' : Rd w B A' c' (scells ss)) :
    Calls Tryd.prog 41 #[.agg #[.slice A ss.length c], .agg #[.slice A' ss.length c']] w fun e w' => e = .returned (.bool true) ∧ Below w.heap.size w w' := by
  go_enter Tryd.func41, Tryd.ntmps41
  go_wp2_with fail
  obtain ⟨W, hW⟩ : ∃ W, W = (w.alloc (.cells #[.slice A ss.length c] 60)).alloc (.cells #[.slice A' ss.length c'] 60) := ⟨_, rfl⟩
  have hbW : Below w.heap.size w W := by rw [hW]; first | exact bel1 _ _ | exact bel2 _ _ _ | exact bel3 _ _ _ _
  have hzW : w.heap.size + 2 ≤ W.heap.size := by rw [hW]; simp
  first | rw [← hW] | (show Calls _ _ _ _ _; rw [← hW])
  clear hW
  refine (eqStr_same A A' c c' ss W B (by omega) (h.below hbW hB) (h'.below hbW hB)).mono ?_; rintro e w1 ⟨rfl, hb1⟩
  go_wp2
  go_ret
  exact ⟨rfl, hbW.trans (hb1.mono (by omega))⟩
end Go.Proofs.YtadljglcbieifaaDoor
