/- Boards as rows of bools: the reference's, by contracts. Conditions: none. -/
import Derived.Test.YtpepkpikeggceaaDoorBoard1
import Derived.Test.YtpepkpikeggceaaDoorMemAt
import Derived.Deep.RegionHeld3
namespace Go.Proofs.YtpepkpikeggceaaDoor
open Go.RowKit
set_option linter.unusedVariables false

def bools (bs : List Bool) : List Value := bs.map .bool
theorem bools_len (bs : List Bool) : (bools bs).length = bs.length := by simp [bools]
theorem bools_snoc (bs : List Bool) (b : Bool) : bools (bs ++ [b]) = bools bs ++ [.bool b] := by simp [bools]
theorem bools_at (bs : List Bool) (i : Nat) (h : i < bs.length) : (bools bs)[i]? = some (.bool (bs.getD i false)) := by simp [bools, h]
/-- The i-th row. -/
def gb (bss : List (List Bool)) (i : Nat) : List Bool := bss.getD i []
theorem gb_lt {bss : List (List Bool)} {i : Nat} (h : i < bss.length) : gb bss i = bss[i] := by simp [gb, h]
theorem infoBool : (Tryd.prog.info? 4).map (fun i => (i.zero, i.size, i.bytes)) = some (some (.bool false), 1, 1) := by kernel_rfl
theorem infoBoolS : (Tryd.prog.info? 68).map (fun i => (i.zero, i.size, i.bytes)) = some (some (.slice none 0 0), 1, 24) := by kernel_rfl
/-- 'append(l, x)' at bools. -/
theorem append_bool {w : World} {ops : Array Oper} {rest : List Oper} {o : Oper} {a : Act} {Q : Exit → Act → World → Prop} (hgd : o.guard = none) (s x : Operand)
    (ho : o.op = .call { callee := .builtin .append, args := #[s, x], argTypes := #[68, 68] })
    (base : Nat) (v : Value) (bs : List Bool) (hs : a.eval s = v) (hown : Own w base 4 v (bools bs)) (g : Nat) (u : Bool) (hx : a.eval x = .slice (some ⟨g, 0, none⟩) 1 1) (hc : w.cell? ⟨g, 0, none⟩ = some (.bool u))
    (hlen : bs.length ≤ 1000000000) (hbase : base ≤ w.heap.size)
    (h : ∀ A c w', Own w' base 4 (.slice A (bs.length + 1) c) (bools (bs ++ [u])) → Below base w w' → w.grownBy w' v.ownBlock → wpList Tryd.prog ops Q rest (a.put o.dst (.slice A (bs.length + 1) c)) w') :
    wpList Tryd.prog ops Q (o :: rest) a w := by
  refine append_one hgd s x 68 4 (.bool false) 1 ho Tryd.underlying68 infoBool rfl (by omega) base v (bools bs) hs hown g _ hx hc rfl (by rw [bools_len]; exact hlen) hbase ?_
  intro A c w' h1 h2 h3
  rw [bools_len] at h1 ⊢
  refine h A c w' ?_ h2 h3
  rw [bools_snoc]; exact h1
/-- v is a new slice of rows of bools, none of them in v's block. -/
def RwB (w : World) (lo : Nat) (v : Value) (bss : List (List Bool)) : Prop :=
  ∃ cs, Own w lo 68 v cs ∧ cs.length = bss.length ∧ ∀ i, i < bss.length → ∃ Ai ci, cs[i]? = some (.slice Ai (gb bss i).length ci) ∧ Rd w w.heap.size Ai ci (bools (gb bss i)) ∧ ∀ a, Ai = some a → a.block < w.heap.size ∧ v.ownBlock ≠ some a.block
theorem RwB.form {w : World} {lo : Nat} {v : Value} {bss : List (List Bool)} (h : RwB w lo v bss) : ∃ A c, v = .slice A bss.length c := by
  obtain ⟨cs, h1, h2, _⟩ := h
  obtain ⟨A, c, hv⟩ := h1.form
  exact ⟨A, c, by rw [hv, h2]⟩
theorem RwB.below {w w' : World} {lo : Nat} {v : Value} {bss : List (List Bool)} (h : RwB w lo v bss) (hb : Below w.heap.size w w') : RwB w' lo v bss := by
  obtain ⟨cs, h1, h2, h3⟩ := h
  refine ⟨cs, h1.below hb, h2, fun i hi => ?_⟩
  obtain ⟨Ai, ci, k1, k2, k3⟩ := h3 i hi
  exact ⟨Ai, ci, k1, (k2.below hb (Nat.le_refl _)).more hb.size, fun a ha => ⟨Nat.lt_of_lt_of_le (k3 a ha).1 hb.size, (k3 a ha).2⟩⟩
theorem RwB.le {w : World} {lo lo' : Nat} {v : Value} {bss : List (List Bool)} (h : RwB w lo v bss) (hl : lo' ≤ lo) : RwB w lo' v bss := by
  obtain ⟨cs, h1, h2⟩ := h
  exact ⟨cs, h1.le hl, h2⟩
theorem RwB.nil {w : World} {lo : Nat} {v : Value} (h : Own w lo 68 v []) : RwB w lo v [] := ⟨[], h, rfl, fun i hi => absurd hi (by simp)⟩
theorem RwB.at {w : World} {lo : Nat} {A : Option Addr} {n c : Nat} {bss : List (List Bool)} (h : RwB w lo (.slice A n c) bss) {j : Nat} (hj : j < bss.length) :
    ∃ g, A = some ⟨g, 0, none⟩ ∧ lo ≤ g ∧ g < w.heap.size ∧ n = bss.length ∧ n ≤ c ∧ c ≤ 9223372036854775807 ∧ ∀ i, i < bss.length → ∃ Ai ci, w.cell? ⟨g, i, none⟩ = some (.slice Ai (gb bss i).length ci) ∧ Rd w w.heap.size Ai ci (bools (gb bss i)) := by
  obtain ⟨cs, h1, h2, h3⟩ := h
  obtain ⟨g, hA, hn, hlo, hg, hc, _⟩ := h1.at (by omega)
  have hr := h1.rd
  refine ⟨g, hA, hlo, hg, by omega, by have := hr.len; omega, hr.max, fun i hi => ?_⟩
  obtain ⟨Ai, ci, k1, k2, _⟩ := h3 i hi
  exact ⟨Ai, ci, hc i _ k1, k2⟩
theorem RwB.len {w : World} {lo : Nat} {A : Option Addr} {n c : Nat} {bss : List (List Bool)} (h : RwB w lo (.slice A n c) bss) : n = bss.length ∧ n ≤ c ∧ c ≤ 9223372036854775807 := by
  obtain ⟨cs, h1, h2, h3⟩ := h
  have hr := h1.rd
  have := h1.len
  exact ⟨by omega, by have := hr.len; omega, hr.max⟩
/-- A row is put behind. -/
theorem RwB.push {w w2 w3 : World} {lo : Nat} {v v' : Value} {cs : List Value} {bss : List (List Bool)} {A : Option Addr} {c : Nat} {bs : List Bool}
    (h : Own w lo 68 v cs ∧ cs.length = bss.length ∧ ∀ i, i < bss.length → ∃ Ai ci, cs[i]? = some (.slice Ai (gb bss i).length ci) ∧ Rd w w.heap.size Ai ci (bools (gb bss i)) ∧ ∀ a, Ai = some a → a.block < w.heap.size ∧ v.ownBlock ≠ some a.block)
    (hb : Below w.heap.size w w2) (hr : Rd w2 w2.heap.size A c (bools bs)) (hne : ∀ a, A = some a → a.block < w2.heap.size ∧ v.ownBlock ≠ some a.block)
    (ho : Own w3 lo 68 v' (cs ++ [.slice A bs.length c])) (hg : w2.grownBy w3 v.ownBlock) (hp : v'.ownBlock = v.ownBlock ∨ v'.ownBlock = some w2.heap.size) : RwB w3 lo v' (bss ++ [bs]) := by
  obtain ⟨h1, h2, h3⟩ := h
  have keep : ∀ (Ai : Option Addr) (ci : Nat) (xs : List Value), Rd w2 w2.heap.size Ai ci xs → (∀ a, Ai = some a → a.block < w2.heap.size ∧ v.ownBlock ≠ some a.block) →
      Rd w3 w3.heap.size Ai ci xs ∧ ∀ a, Ai = some a → a.block < w3.heap.size ∧ v'.ownBlock ≠ some a.block := by
    intro Ai ci xs hx hn
    refine ⟨⟨hx.1, hx.2.1, hx.2.2.1, fun j hj => ?_⟩, fun a ha => ⟨Nat.lt_of_lt_of_le (hn a ha).1 hg.size, fun he => ?_⟩⟩
    · obtain ⟨b, o, hA, hbl, hc⟩ := hx.2.2.2 j hj
      refine ⟨b, o, hA, Nat.lt_of_lt_of_le hbl hg.size, fun i u hi => ?_⟩
      exact (World.cell?_of_block (w := w2) (a := ⟨b, o + i, none⟩) (hg.block b hbl fun e => (hn _ hA).2 e.symm)).trans (hc i u hi)
    · rcases hp with hp | hp
      · exact (hn a ha).2 (by rw [← hp]; exact he)
      · rw [hp] at he
        injection he with he
        have := (hn a ha).1
        omega
  refine ⟨_, ho, by rw [List.length_append, List.length_append, h2]; rfl, fun i hi => ?_⟩
  rw [List.length_append, List.length_singleton] at hi
  by_cases hl : i < bss.length
  · obtain ⟨Ai, ci, k1, k2, k3⟩ := h3 i hl
    have e : gb (bss ++ [bs]) i = gb bss i := by simp [gb, List.getElem?_append_left hl]
    rw [e]
    obtain ⟨m1, m2⟩ := keep Ai ci _ ((k2.below hb (Nat.le_refl _)).more hb.size) fun a ha => ⟨Nat.lt_of_lt_of_le (k3 a ha).1 hb.size, (k3 a ha).2⟩
    exact ⟨Ai, ci, by rw [List.getElem?_append_left (by omega)]; exact k1, m1, m2⟩
  · obtain rfl : i = bss.length := by omega
    have e : gb (bss ++ [bs]) bss.length = bs := by simp [gb]
    rw [e]
    obtain ⟨m1, m2⟩ := keep A c _ hr hne
    exact ⟨A, c, by rw [List.getElem?_append_right (by omega), h2, Nat.sub_self]; rfl, m1, m2⟩
/-- The marks of a row. -/
def brow (r : ByteArray) : List Bool := r.data.toList.map (· == 46)
theorem brow_len (r : ByteArray) : (brow r).length = r.size := by rw [brow, List.length_map, data_len]
theorem brow_take (r : ByteArray) (k : Nat) (h : k < r.size) : (brow r).take (k + 1) = (brow r).take k ++ [r[k] == 46] := by
  have h' : k < (brow r).length := by rw [brow_len]; exact h
  rw [List.take_succ_eq_append_getElem h']
  congr 2
  simp [brow]
  rfl
def brows (ss : List ByteArray) : List (List Bool) := ss.map brow
theorem brows_take (ss : List ByteArray) (k : Nat) (h : k < ss.length) : (brows ss).take (k + 1) = (brows ss).take k ++ [brow (gs ss k)] := by
  have h' : k < (brows ss).length := by simp [brows]; exact h
  rw [List.take_succ_eq_append_getElem h']
  congr 2
  simp [brows, gs_lt h]

set_option maxHeartbeats 1600000 in
theorem cells_any (A : Option Addr) (c : Nat) (ss : List ByteArray) (w : World) (B : Nat) (hB : B ≤ w.heap.size) (h : Rd w B A c (scells ss)) (hsz : Hid (Short ss)) (hn : ss.length ≤ 1048576) :
    Calls Tryd.prog 49 #[.agg #[.slice A ss.length c]] w fun e w' => ∃ A' c', e = .returned (.slice A' ss.length c') ∧ RwB w' w.heap.size (.slice A' ss.length c') (brows ss) ∧ Below w.heap.size w w' := by
  have h1 := h.len
  have h2 := h.max
  rw [scells_len] at h1
  go_enter Tryd.func49, Tryd.ntmps49
  go_wp2
  obtain ⟨W, hW⟩ : ∃ W, W = w.alloc (.cells #[.slice A ss.length c] 45) := ⟨_, rfl⟩
  have hAW : Below w.heap.size w W := by rw [hW]; exact bel1 _ _
  have hzW : W.heap.size = w.heap.size + 1 := by rw [hW]; simp
  have c0W : W.cell? ⟨w.heap.size, 0, none⟩ = some (.slice A ss.length c) := by rw [hW]; simp [go_sem]
  have hoW : RwB (W.alloc (.cells #[] 68)) W.heap.size (.slice (some ⟨W.heap.size, 0, none⟩) 0 0) [] := RwB.nil (Own.empty W 68 _ _ (Nat.le_refl _))
  have hoW : RwB (W.alloc (.cells #[] 68)) W.heap.size (.slice (some ⟨w.heap.size + 1, 0, none⟩) 0 0) [] := by rw [← hzW]; exact hoW
  have HQ : Hid (∀ w', Below W.heap.size W w' → w'.cell? ⟨w.heap.size, 0, none⟩ = some (.slice A ss.length c) ∧ Rd w' w.heap.size A c (scells ss)) := fun w' hb =>
    ⟨(hb.cell (p := ⟨w.heap.size, 0, none⟩) (by show w.heap.size < _; omega)).trans c0W, (h.below (hAW.trans (hb.mono (by omega))) hB).more hB⟩
  have hbW : Below W.heap.size W (W.alloc (.cells #[] 68)) := bel1 _ _
  rw [← hW]
  have HZ := Lib.hid hzW
  clear hW c0W hzW
  have hzW : w.heap.size < W.heap.size := by have := HZ.out; omega
  go_loopw [3, 4, 5, 6] (fun v i x y wr => ∃ (k : Nat) (A' : Option Addr) (c' : Nat), i = .int .i64 k ∧ k ≤ ss.length ∧ v = .slice A' k c' ∧ RwB wr W.heap.size (.slice A' k c') ((brows ss).take k) ∧ Below W.heap.size W wr) (fun _ i _ _ _ => ss.length - (intOf i).toNat)
  case atStart => exact ⟨0, _, _, rfl, by omega, rfl, hoW, hbW⟩
  case round =>
    clear hoW hbW
    obtain ⟨k, A', c', rfl, hk, rfl, ho, hb⟩ := hrel
    obtain ⟨q0, hrd⟩ := HQ.out _ hb
    have hzr := hb.size
    obtain ⟨wo, rfl⟩ : ∃ wo : World, wo = wr := ⟨_, rfl⟩
    by_cases hlt : k < ss.length
    · have HO := Lib.hid ho; clear ho
      obtain ⟨b, o, rfl, hbB, hc⟩ := hrd.at (j := k) (by rw [scells_len]; exact hlt)
      have HC : Hid (∀ w', Below wo.heap.size wo w' → w'.cell? ⟨w.heap.size, 0, none⟩ = some (.slice (some ⟨b, o, none⟩) ss.length c) ∧ w'.cell? ⟨b, o + k, none⟩ = some (.string (gs ss k))) := fun w' hb' =>
        ⟨(hb'.cell (p := ⟨w.heap.size, 0, none⟩) (by show w.heap.size < _; omega)).trans q0, (hb'.cell (p := ⟨b, o + k, none⟩) (by show b < _; omega)).trans (hc k _ (gs_at ss k hlt))⟩
      have hszk := hsz.out k hlt
      clear hc hrd
      go_wp2
      go_loopw [5, 6] (fun x y wr => ∃ (j : Nat) (A2 : Option Addr) (c2 : Nat), y = .int .i64 j ∧ j ≤ (gs ss k).size ∧ x = .slice A2 j c2 ∧ Own wr wo.heap.size 4 (.slice A2 j c2) (bools ((brow (gs ss k)).take j)) ∧ Below wo.heap.size wo wr) (fun _ y _ => (gs ss k).size - (intOf y).toNat)
      case atStart => exact ⟨0, _, _, rfl, by omega, rfl, Own.empty wo 4 _ _ (Nat.le_refl _), bel1 _ _⟩
      case round =>
        obtain ⟨j, A2, c2, rfl, hj, rfl, ho, hbj⟩ := hrel
        obtain ⟨q0, qk⟩ := HC.out _ hbj
        have hzj := hbj.size
        by_cases hjl : j < (gs ss k).size
        · have HL : Hid (((brow (gs ss k)).take j).length = j) := by show _ = _; rw [List.length_take, brow_len]; omega
          have HT := Lib.hid (brow_take (gs ss k) j hjl)
          obtain ⟨u, hu⟩ : ∃ u, u = ((gs ss k)[j] == 46) := ⟨_, rfl⟩
          have hcmp : (((gs ss k)[j].toNat : Int) == 46) = u := by
            rw [hu]
            by_cases c1 : (gs ss k)[j] = 46
            · rw [beq_t 46 rfl c1, c1]; rfl
            · rw [beq_f 46 rfl c1]; simp [c1]
          have HU := Lib.hid hu; clear hu
          go_wp2_with (at_builtin; refine append_bool rfl _ _ rfl wo.heap.size _ ((brow (gs ss k)).take j) rfl (ho.below ((Below.refl _ _).alloc (Nat.le_refl _) _)) _ u rfl ((Blk.new _ _ _).cell 0) (by rw [HL.out]; omega) (by simp; omega) ?_; intro A3 c3 w3 ho3 hb3 hg3; rw [HL.out] at ho3 ⊢)
          go_roundw
          case rel => exact ⟨j + 1, A3, c3, by go_num, by omega, rfl, by rw [HT.out, ← HU.out]; exact ho3, (hbj.alloc hzj _).trans hb3⟩
          case measure => simp [intOf]; omega
        · obtain rfl : j = (gs ss k).size := by omega
          have HE : Hid ((brow (gs ss k)).take (gs ss k).size = brow (gs ss k)) := List.take_of_length_le (by rw [brow_len]; omega)
          rw [HE.out] at ho
          have hro : Rd wr wr.heap.size A2 c2 (bools (brow (gs ss k))) := ho.rd
          have HRO := Lib.hid hro
          have hne : ∀ a, A2 = some a → wo.heap.size ≤ a.block ∧ a.block < wr.heap.size := fun a ha => by subst ha; exact ho.lt a.block rfl
          have HNE := Lib.hid hne
          have HOO := Lib.hid ho
          clear hro hne ho
          obtain ⟨cs, k1, k2, k3⟩ := HO.out
          have HK : Hid (cs.length = k) := by show _ = _; rw [k2, List.length_take, brows, List.length_map]; omega
          have HK3 := Lib.hid (And.intro k1 (And.intro k2 k3))
          have hvb := fun g hg => (k1.lt g hg).2
          have HVB := Lib.hid hvb
          have k1' := (k1.below hbj)
          clear k2 k3 hvb k1
          go_wp2_with (at_builtin; refine wpList_append_at rfl _ _ 66 68 (.slice none 0 0) 24 rfl Tryd.underlying66 infoBoolS rfl (by omega) W.heap.size _ cs rfl (k1'.below (bel1 _ _)) _ _ _ _ [.slice A2 (gs ss k).size c2] rfl rfl (Rd.of_blk (Blk.new _ _ _) (Nat.lt_succ_self _)) (fun u hu => by simp at hu; subst hu; rfl) (by rw [HK.out]; simp; omega) (by simp; omega) ?_; intro A4 c4 w4 ho4 hb4 hg4 hp4; rw [HK.out] at ho4 hp4 ⊢)
          have HP : Hid (RwB w4 W.heap.size (.slice A4 (k + 1) c4) ((brows ss).take (k + 1))) := by
            show RwB _ _ _ _
            rw [brows_take ss k hlt]
            refine RwB.push (w := wo) (w2 := wr.alloc (.cells #[.slice A2 (gs ss k).size c2] 68)) (A := A2) (c := c2) HK3.out (hbj.alloc hzj _) ?_ ?_ ?_ hg4 hp4
            · exact (HRO.out.below (bel1 _ _) (Nat.le_refl _)).more (by simp)
            · intro a ha
              have := HNE.out a ha
              refine ⟨by simp; omega, fun he => ?_⟩
              have := HVB.out _ he
              omega
            · rw [brow_len]; exact ho4
          clear ho4 hg4 hp4 k1'
          go_wp2
          go_roundw
          case rel => exact ⟨k + 1, A4, c4, by go_num, by omega, rfl, HP.out, (hb.trans ((hbj.alloc hzj _).mono hzr)).trans hb4⟩
          case measure => simp [intOf]; omega
    · obtain rfl : k = ss.length := by omega
      have HE : Hid ((brows ss).take ss.length = brows ss) := List.take_of_length_le (by simp [brows])
      rw [HE.out] at ho
      have HO := Lib.hid ho; clear ho
      clear hrd
      go_wp2
      go_ret
      exact ⟨_, _, rfl, HO.out.le (by omega), hAW.trans (hb.mono (by omega))⟩
end Go.Proofs.YtpepkpikeggceaaDoor
