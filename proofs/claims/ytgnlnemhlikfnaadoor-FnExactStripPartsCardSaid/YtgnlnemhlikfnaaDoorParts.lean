/- StripParts of the program and of the reference, by contracts; the law. Conditions: none. -/
import Derived.Test.YtgnlnemhlikfnaaDoorRuns2
import Derived.Test.YtgnlnemhlikfnaaDoorSLaw
import Derived.Test.YtgnlnemhlikfnaaDoorMemAt
namespace Go.Proofs.YtgnlnemhlikfnaaDoor
open Go.RowKit
set_option linter.unusedVariables false

theorem append_str_at {w : World} {ops : Array Oper} {rest : List Oper} {o : Oper} {a : Act} {Q : Exit → Act → World → Prop} (hgd : o.guard = none) (s x : Operand)
    (ho : o.op = .call { callee := .builtin .append, args := #[s, x], argTypes := #[37, 37] })
    (base : Nat) (v : Value) (ss : List ByteArray) (hs : a.eval s = v) (hown : Own w base 9 v (scells ss)) (g : Nat) (u : ByteArray) (hx : a.eval x = .slice (some ⟨g, 0, none⟩) 1 1) (hc : Blk w g 9 #[.string u])
    (hlen : ss.length ≤ 900000000) (hbase : base ≤ w.heap.size)
    (h : ∀ A c w', Own w' base 9 (.slice A (ss.length + 1) c) (scells (ss ++ [u])) → Below base w w' → w.grownBy w' v.ownBlock → ((Value.slice A (ss.length + 1) c).ownBlock = v.ownBlock ∨ (Value.slice A (ss.length + 1) c).ownBlock = some w.heap.size) → wpList Tryd.prog ops Q rest (a.put o.dst (.slice A (ss.length + 1) c)) w') :
    wpList Tryd.prog ops Q (o :: rest) a w := by
  refine wpList_append_at hgd s x 37 9 (.string ByteArray.empty) 16 ho Tryd.underlying37 infoStr rfl (by omega) base v (scells ss) hs hown (g + 1) (some ⟨g, 0, none⟩) 1 1 [.string u] hx rfl (Rd.of_blk hc (Nat.lt_succ_self _)) (fun u hu => by simp at hu; subst hu; rfl) (by rw [scells_len]; simp; omega) hbase ?_
  intro A c w' k1 k2 k3 k4
  rw [scells_len, List.length_singleton] at k1 k4 ⊢
  refine h A c w' ?_ k2 k3 k4
  rw [scells_snoc]; exact k1

/-- A piece that is not dead. -/
def nv (kind : Int) (p : ByteArray) : Bool := !overB kind p
def partsL (kind : Int) (s : ByteArray) : List ByteArray := (rawL kind s).filter (nv kind)
theorem filter_step (raw : List ByteArray) (k : Nat) (h : k < raw.length) (f : ByteArray → Bool) : (raw.take (k + 1)).filter f = if f (gs raw k) = true then (raw.take k).filter f ++ [gs raw k] else (raw.take k).filter f := by
  rw [List.take_succ_eq_append_getElem h, List.filter_append, gs_lt h]
  by_cases hf : f raw[k] = true
  · rw [if_pos hf]; simp [hf]
  · rw [if_neg hf]; simp [hf]
theorem rawL_len (kind : Int) (s : ByteArray) : (rawL kind s).length ≤ s.size + 1 := by
  unfold rawL
  split
  · simp
  · split
    · exact pieces_len 46 s
    · have := runsL_le s; omega
theorem rawL_size (kind : Int) (s : ByteArray) (j : Nat) (hj : j < (rawL kind s).length) : (gs (rawL kind s) j).size ≤ s.size := by
  by_cases h0 : kind = 0
  · have e : rawL kind s = [s] := if_pos h0
    rw [e] at hj ⊢
    simp at hj
    subst hj
    simp [gs]
  · by_cases h1 : kind = 1
    · have e : rawL kind s = pieces 46 s := by rw [rawL, if_neg h0, if_pos h1]
      rw [e] at hj ⊢
      have h2 := pieces_size 46 s
      have h3 := gs_le_sum _ j hj
      omega
    · have e : rawL kind s = runsL s := by rw [rawL, if_neg h0, if_neg h1]
      rw [e] at hj ⊢
      rw [gs_lt hj]
      have hm : (runsL s)[j] ∈ runsL s := List.getElem_mem hj
      generalize (runsL s)[j] = x at hm
      unfold runsL acc at hm
      rw [List.mem_flatMap] at hm
      obtain ⟨k, _, hx⟩ := hm
      unfold runAt at hx
      split at hx
      · simp at hx
        rw [hx, ByteArray.size_extract]
        omega
      · simp at hx

set_option maxHeartbeats 1600000 in
theorem partsS_any (kind : Int) (s : ByteArray) (w : World) (h1 : 0 ≤ kind) (h2 : kind ≤ 3) (hs : s.size ≤ 12) :
    Calls Tryd.prog 93 #[.int .i64 kind, .string s] w (RetS w (partsL kind s)) := by
  have HSZ : Hid (∀ j, j < (rawL kind s).length → (gs (rawL kind s) j).size ≤ 12) := fun j hj => by have := rawL_size kind s j hj; omega
  have HPL : Hid (partsL kind s = (rawL kind s).filter (nv kind)) := rfl
  have hrl := rawL_len kind s
  have hR : ∀ w, Calls Tryd.prog 122 #[.int .i64 kind, .string s] w (RetS w (rawL kind s)) := fun w => rawS_any kind s w (by omega)
  have h0 : (rawL kind s).length = 0 ∨ 0 < (rawL kind s).length := by omega
  generalize rawL kind s = raw at HSZ HPL hrl hR h0
  go_enter Tryd.func93, Tryd.ntmps93
  go_wp2_with fail
  obtain ⟨W, hW⟩ : ∃ W, W = w.alloc (.cells #[] 9) := ⟨_, rfl⟩
  have eo : Blk W w.heap.size 9 #[] := by rw [hW]; exact Blk.new _ _ _
  have hAW : Below w.heap.size w W := by rw [hW]; exact bel1 _ _
  have hWz0 : W.heap.size = w.heap.size + 1 := by rw [hW]; simp
  rw [← hW]
  clear hW
  refine (hR W).mono ?_; rintro e V ⟨A0, c0, rfl, hor, hbV⟩
  have hBV : Below w.heap.size w V := gtr hAW hbV
  have hwV := hBV.size
  have eoV := eo.below hbV eo.lt
  have hoV : Own V w.heap.size 9 (.slice (some ⟨w.heap.size, 0, none⟩) 0 0) (scells []) := Own.of_blk eoV (Nat.le_refl _)
  have HOV0 := Lib.hid hoV; clear hoV
  have hrd := hor.rd
  have hcl := hrd.len
  have hcm := hrd.max
  rw [scells_len] at hcl
  have HA0 : Hid (0 < raw.length → ∃ b o, A0 = some ⟨b, o, none⟩ ∧ W.heap.size ≤ b ∧ b < V.heap.size) := fun hi => by
    obtain ⟨b, o, rfl, hbB, _⟩ := hrd.at (j := 0) (by rw [scells_len]; exact hi)
    refine ⟨b, o, rfl, ?_, hbB⟩
    rcases hor.2 with ⟨h, _⟩ | ⟨g, cap, cur, h, hg, _⟩
    · injection h with h; cases h
    · injection h with h; injection h with h; injection h with h; omega
  have HRD : Hid (∀ b o, A0 = some ⟨b, o, none⟩ → ∀ i, i < raw.length → V.cell? ⟨b, o + i, none⟩ = some (.string (gs raw i))) := fun b o hA i hi => by
    obtain ⟨b', o', hA', hbB, hc⟩ := hrd.at (j := 0) (by rw [scells_len]; omega)
    rw [hA] at hA'
    injection hA' with hA'
    injection hA' with hb' ho'
    subst hb'; subst ho'
    exact hc i _ (gs_at raw i hi)
  have hWz : W.heap.size = w.heap.size + 1 := hWz0
  clear hrd hor eo eoV
  go_wp2
  go_loopw [5, 7] (fun v i wr => ∃ (k : Nat) (A' : Option Addr) (c' n : Nat), i = .int .i64 k ∧ k ≤ raw.length ∧ n = ((raw.take k).filter (nv kind)).length ∧ v = .slice A' n c' ∧ Own wr w.heap.size 9 (.slice A' n c') (scells ((raw.take k).filter (nv kind))) ∧ (∀ g, (Value.slice A' n c').ownBlock = some g → g = w.heap.size ∨ V.heap.size ≤ g) ∧ Below w.heap.size w wr ∧ V.heap.size ≤ wr.heap.size ∧ (∀ b o, A0 = some ⟨b, o, none⟩ → ∀ i, i < raw.length → wr.cell? ⟨b, o + i, none⟩ = some (.string (gs raw i)))) (fun _ i _ => raw.length - (intOf i).toNat)
  case atStart => exact ⟨0, _, _, 0, rfl, by omega, rfl, rfl, HOV0.out, fun g hg => .inl (by simp [Value.ownBlock] at hg; omega), hBV, Nat.le_refl _, HRD.out⟩
  case round =>
    obtain ⟨k, A', c', n, rfl, hk, hn, rfl, ho, hpb, hb, hcells⟩ := hrel
    have hnl : ((raw.take k).filter (nv kind)).length ≤ 20 := by
      have h1 := List.length_filter_le (nv kind) (raw.take k)
      rw [List.length_take] at h1
      omega
    rw [← hn] at hnl
    have HN := Lib.hid hn; clear hn
    have HO := Lib.hid ho; clear ho
    have HPB := Lib.hid hpb; clear hpb
    have hzr := hb.size
    have hzV := hcells.1
    have HCL := Lib.hid hcells.2; clear hcells
    by_cases hlt : k < raw.length
    · obtain ⟨b, o, rfl, hbl, hbu⟩ := HA0.out (by omega)
      have qk := HCL.out b o rfl k hlt
      have hp12 := HSZ.out k hlt
      have HST := Lib.hid (filter_step raw k hlt (nv kind))
      generalize hgp : gs raw k = p at qk hp12 HST
      clear hgp
      cases hov : overB kind p
      · have HF : Hid ((raw.take (k + 1)).filter (nv kind) = (raw.take k).filter (nv kind) ++ [p]) := by show _ = _; rw [HST.out, if_pos (by simp [nv, hov])]
        have HOV := Lib.hid hov; clear hov
        have HL : Hid (n + 1 = ((raw.take (k + 1)).filter (nv kind)).length) := by show _ = _; rw [HF.out, List.length_append, ← HN.out]; rfl
        go_wp2_with fail
        refine (overS_any kind p wr h1 h2 hp12).mono ?_; rintro e w3 ⟨rfl, hb3⟩
        rw [HOV.out]
        have hb4 := gtr hb hb3
        have hz3 := hb3.size
        have HO4 := Lib.hid (HO.out.below hb3)
        have HCL3 : Hid (∀ i, i < raw.length → w3.cell? ⟨b, o + i, none⟩ = some (.string (gs raw i))) := fun i hi => (hb3.cell (p := ⟨b, o + i, none⟩) (by show b < _; omega)).trans (HCL.out b o rfl i hi)
        have qk3 : w3.cell? ⟨b, o + k, none⟩ = some (.string p) := (hb3.cell (p := ⟨b, o + k, none⟩) (by show b < _; omega)).trans qk
        go_wp2_with (at_builtin; refine append_str_at rfl _ _ rfl w.heap.size _ ((raw.take k).filter (nv kind)) rfl (HO4.out.below (bel1 _ _)) _ p rfl (Blk.new _ _ _) (by rw [← HN.out]; omega) (by simp; omega) ?_; intro A5 c5 w5 ho5 hb5 hg5 hp5; rw [← HF.out, ← HN.out] at ho5; rw [← HN.out] at hp5 ⊢)
        have HO5 := Lib.hid ho5; clear ho5
        have hzw := hg5.size
        simp at hzw
        have HP5 : Hid (∀ g, (Value.slice A5 (n + 1) c5).ownBlock = some g → g = w.heap.size ∨ V.heap.size ≤ g) := by
          intro g hg
          rcases hp5 with hp5 | hp5
          · exact HPB.out g (hp5 ▸ hg)
          · rw [hp5] at hg; injection hg with hg; right; simp at hg; omega
        have HCL5 : Hid (∀ b' o', some (⟨b, o, none⟩ : Addr) = some ⟨b', o', none⟩ → ∀ i, i < raw.length → w5.cell? ⟨b', o' + i, none⟩ = some (.string (gs raw i))) := by
          intro b' o' hbo i hi
          injection hbo with hbo
          injection hbo with hb' ho'
          subst hb'; subst ho'
          have hblk := hg5.block b (by simp; omega) (fun e => by have := HPB.out b e.symm; omega)
          have h3 := HCL3.out i hi
          rw [World.cell?_of_block hblk]
          exact ((bel1 w3 _).cell (p := ⟨b, o + i, none⟩) (by show b < _; omega)).trans h3
        clear hp5
        go_roundw
        case rel => exact ⟨k + 1, A5, c5, n + 1, by go_num, by omega, HL.out, rfl, HO5.out, HP5.out, (hb4.alloc (by omega) _).trans hb5, by omega, HCL5.out⟩
        case measure => simp [intOf]; omega
      · have HF : Hid ((raw.take (k + 1)).filter (nv kind) = (raw.take k).filter (nv kind)) := by show _ = _; rw [HST.out, if_neg (by simp [nv, hov])]
        have HOV := Lib.hid hov; clear hov
        go_wp2_with fail
        refine (overS_any kind p wr h1 h2 hp12).mono ?_; rintro e w3 ⟨rfl, hb3⟩
        rw [HOV.out]
        have hb4 := gtr hb hb3
        have hz3 := hb3.size
        have HO4 := Lib.hid (HO.out.below hb3)
        have HCL3 : Hid (∀ b' o', some (⟨b, o, none⟩ : Addr) = some ⟨b', o', none⟩ → ∀ i, i < raw.length → w3.cell? ⟨b', o' + i, none⟩ = some (.string (gs raw i))) := by
          intro b' o' hbo i hi
          have h3 := HCL.out b' o' hbo i hi
          injection hbo with hbo
          injection hbo with hb' ho'
          subst hb'
          exact (hb3.cell (p := ⟨b, o' + i, none⟩) (by show b < _; omega)).trans h3
        go_wp2
        go_roundw
        case rel => exact ⟨k + 1, A', c', n, by go_num, by omega, by rw [HF.out]; exact HN.out, rfl, by rw [HF.out]; exact HO4.out, HPB.out, hb4, by omega, HCL3.out⟩
        case measure => simp [intOf]; omega
    · obtain rfl : k = raw.length := by omega
      have HE : Hid (raw.take raw.length = raw) := List.take_length
      rw [HE.out] at HN HO
      go_wp2
      go_ret
      rw [HPL.out]
      exact RetS.mk HO.out HN.out hb

set_option maxHeartbeats 1600000 in
theorem partsI_any (kind : Int) (s : ByteArray) (w : World) (h1 : 0 ≤ kind) (h2 : kind ≤ 3) (hs : s.size ≤ 12) :
    Calls Tryd.prog 94 #[.int .i64 kind, .string s] w (RetS w (partsL kind s)) := by

  have HSZ : Hid (∀ j, j < (rawL kind s).length → (gs (rawL kind s) j).size ≤ 12) := fun j hj => by have := rawL_size kind s j hj; omega
  have HPL : Hid (partsL kind s = (rawL kind s).filter (nv kind)) := rfl
  have hrl := rawL_len kind s
  by_cases hk0 : kind = 0
  · have hraw : rawL kind s = [s] := if_pos hk0
    have HLEN : Hid ((rawL kind s).length = 1) := by show _ = _; rw [hraw]; rfl
    have HLI : Hid (∀ i, i < 1 → i < (rawL kind s).length) := fun i hi => by rw [HLEN.out]; exact hi
    have HLE : Hid ((rawL kind s).length ≤ 1) := by show _ ≤ _; rw [HLEN.out]; exact Nat.le_refl _
    have hrawc : scells (rawL kind s) = [.string s] := by rw [hraw]; rfl
    have t1 : (kind == 1) = false := by rw [hk0]; rfl
    have t2 : (kind == 2) = false := by rw [hk0]; rfl
    have t3 : (kind == 3) = false := by rw [hk0]; rfl
    generalize rawL kind s = raw at HSZ HPL hrl HLI HLE HLEN hrawc
    clear hraw hk0
    go_enter Tryd.func94, Tryd.ntmps94
    go_wp2_with fail
    obtain ⟨V, hV⟩ : ∃ V, V = w.alloc (.cells #[.string s] 9) := ⟨_, rfl⟩
    have eV : Blk V w.heap.size 9 #[.string s] := by rw [hV]; exact Blk.new _ _ _
    have hBV : Below w.heap.size w V := by rw [hV]; exact bel1 _ _
    have hzV : V.heap.size = w.heap.size + 1 := by rw [hV]; simp
    have hwV := hBV.size
    have hc : ∀ i v, (scells raw)[i]? = some v → V.cell? ⟨w.heap.size, 0 + i, none⟩ = some v := by
      intro i v hi
      rw [hrawc] at hi
      cases i with
      | zero => simp at hi; subst hi; exact eV.cell 0
      | succ i => simp at hi
    have hbB : w.heap.size < V.heap.size := by omega
    rw [← hV]
    clear hV hrawc eV
    have HKE := Lib.hid (rfl : kind = kind)
    have HC : Hid (∀ w', Below V.heap.size V w' → ∀ i, i < 1 → w'.cell? ⟨w.heap.size, 0 + i, none⟩ = some (.string (gs raw i))) := fun w' hbb i hi => (hbb.cell (p := ⟨w.heap.size, 0 + i, none⟩) hbB).trans (hc i _ (gs_at raw i (HLI.out i hi)))
    clear hc
    go_loopw [6, 8, 24] (fun v _ i wr => ∃ (k : Nat) (A' : Option Addr) (c' n : Nat), i = .int .i64 k ∧ k ≤ 1 ∧ n = ((raw.take k).filter (nv kind)).length ∧ v = .slice A' n c' ∧ Own wr V.heap.size 9 (.slice A' n c') (scells ((raw.take k).filter (nv kind))) ∧ Below V.heap.size V wr) (fun _ _ i _ => 1 - (intOf i).toNat)
    case atStart => exact ⟨0, _, _, 0, rfl, by omega, rfl, rfl, (by have h := Own.empty V 9 9 _ (Nat.le_refl _); rw [hzV] at h; rw [hzV]; exact h), bel1 _ _⟩
    case round =>
      obtain ⟨k, A', c', n, rfl, hk, hn, rfl, ho, hb⟩ := hrel
      have hnl : ((raw.take k).filter (nv kind)).length ≤ 20 := by
        have h1 := List.length_filter_le (nv kind) (raw.take k)
        rw [List.length_take] at h1
        omega
      rw [← hn] at hnl
      have HN := Lib.hid hn; clear hn
      have HO := Lib.hid ho; clear ho
      have hzr := hb.size
      by_cases hlt : k < 1
      · have qk := HC.out _ hb k hlt
        rw [Nat.zero_add] at qk
        have hp12 := HSZ.out k (HLI.out k hlt)
        have HST := Lib.hid (filter_step raw k (HLI.out k hlt) (nv kind))
        generalize gs raw k = p at qk hp12 HST
        cases hov : overB kind p
        · have HF : Hid ((raw.take (k + 1)).filter (nv kind) = (raw.take k).filter (nv kind) ++ [p]) := by show _ = _; rw [HST.out, if_pos (by simp [nv, hov])]
          have HOV := Lib.hid hov; clear hov
          have HL : Hid (n + 1 = ((raw.take (k + 1)).filter (nv kind)).length) := by show _ = _; rw [HF.out, List.length_append, ← HN.out]; rfl
          go_wp2_with fail
          refine (overI_any kind p wr h1 h2 hp12).mono ?_; rintro e w3 ⟨rfl, hb3⟩
          rw [HOV.out]
          have hb4 := gtr hb hb3
          have hz3 := hb3.size
          have HO4 := Lib.hid (HO.out.below hb3)
          have qk3 := HC.out _ hb4 k hlt
          rw [Nat.zero_add] at qk3
          go_wp2_with (at_builtin; refine append_str rfl _ _ rfl V.heap.size _ ((raw.take k).filter (nv kind)) rfl (HO4.out.below (bel1 _ _)) _ p rfl ((Blk.new _ _ _).cell 0) (by rw [← HN.out]; omega) (by simp; omega) ?_; intro A5 c5 w5 ho5 hb5 hg5; rw [← HF.out, ← HN.out] at ho5; rw [← HN.out])
          have HO5 := Lib.hid ho5; clear ho5
          go_roundw
          case rel => exact ⟨k + 1, A5, c5, n + 1, by go_num, by omega, HL.out, rfl, HO5.out, (hb4.alloc (by omega) _).trans hb5⟩
          case measure => simp [intOf]; omega
        · have HF : Hid ((raw.take (k + 1)).filter (nv kind) = (raw.take k).filter (nv kind)) := by show _ = _; rw [HST.out, if_neg (by simp [nv, hov])]
          have HOV := Lib.hid hov; clear hov
          go_wp2_with fail
          refine (overI_any kind p wr h1 h2 hp12).mono ?_; rintro e w3 ⟨rfl, hb3⟩
          rw [HOV.out]
          have hb4 := gtr hb hb3
          have HO4 := Lib.hid (HO.out.below hb3)
          go_wp2
          go_roundw
          case rel => exact ⟨k + 1, A', c', n, by go_num, by omega, by rw [HF.out]; exact HN.out, rfl, by rw [HF.out]; exact HO4.out, hb4⟩
          case measure => simp [intOf]; omega
      · obtain rfl : k = 1 := by omega
        have HE : Hid (raw.take 1 = raw) := List.take_of_length_le HLE.out
        rw [HE.out] at HN HO
        go_wp2
        go_ret
        rw [HPL.out]
        exact RetS.mk (HO.out.le hwV) HN.out (hBV.trans (hb.mono hwV))
  · have h1' : kind = 1 ∨ kind = 2 ∨ kind = 3 := by omega
    have HLI : Hid (∀ i, i < (rawL kind s).length → i < (rawL kind s).length) := fun i hi => hi
    have HLE : Hid ((rawL kind s).length ≤ (rawL kind s).length) := Nat.le_refl _
    by_cases hk1 : kind = 1
    · have hR : ∀ w, Calls Tryd.prog 87 #[.string s, .string ⟨#[46]⟩] w (RetS w (rawL kind s)) := fun w => by
        have e : rawL kind s = pieces 46 s := by rw [rawL, if_neg hk0, if_pos hk1]
        rw [e]
        exact split_any 46 s w (by omega)
      have hpos : 0 < (rawL kind s).length := by
        have e : rawL kind s = pieces 46 s := by rw [rawL, if_neg hk0, if_pos hk1]
        rw [e]
        obtain ⟨o, p, e⟩ := spl_form 46 s.data.toList; rw [pieces, List.length_map, e]; simp
      have t1 : (kind == 1) = true := by rw [hk1]; rfl
      generalize rawL kind s = raw at HSZ HPL hrl HLI HLE hR hpos
      clear hk0 h1' hk1
      go_enter Tryd.func94, Tryd.ntmps94
      go_wp2_with fail
      obtain ⟨W, hW⟩ : ∃ W, W = w.alloc (.cells #[.string s] 9) := ⟨_, rfl⟩
      have hAW : Below w.heap.size w W := by rw [hW]; exact bel1 _ _
      rw [← hW]
      clear hW
      refine (hR W).mono ?_; rintro e V ⟨A0, c0, rfl, hor, hbV⟩
      have hBV : Below w.heap.size w V := gtr hAW hbV
      have hwV := hBV.size
      have hrd := hor.rd
      have hcl := hrd.len
      have hcm := hrd.max
      rw [scells_len] at hcl
      obtain ⟨b, o, rfl, hbB, hc⟩ := hrd.at (j := 0) (by rw [scells_len]; exact hpos)
      clear hrd hor
      have HC : Hid (∀ w', Below V.heap.size V w' → ∀ i, i < raw.length → w'.cell? ⟨b, o + i, none⟩ = some (.string (gs raw i))) := fun w' hbb i hi => (hbb.cell (p := ⟨b, o + i, none⟩) hbB).trans (hc i _ (gs_at raw i (HLI.out i hi)))
      clear hc
      go_wp2
      go_loopw [6, 8, 24] (fun v _ i wr => ∃ (k : Nat) (A' : Option Addr) (c' n : Nat), i = .int .i64 k ∧ k ≤ raw.length ∧ n = ((raw.take k).filter (nv kind)).length ∧ v = .slice A' n c' ∧ Own wr V.heap.size 9 (.slice A' n c') (scells ((raw.take k).filter (nv kind))) ∧ Below V.heap.size V wr) (fun _ _ i _ => raw.length - (intOf i).toNat)
      case atStart => exact ⟨0, _, _, 0, rfl, by omega, rfl, rfl, Own.empty V 9 _ _ (Nat.le_refl _), bel1 _ _⟩
      case round =>
        obtain ⟨k, A', c', n, rfl, hk, hn, rfl, ho, hb⟩ := hrel
        have hnl : ((raw.take k).filter (nv kind)).length ≤ 20 := by
          have h1 := List.length_filter_le (nv kind) (raw.take k)
          rw [List.length_take] at h1
          omega
        rw [← hn] at hnl
        have HN := Lib.hid hn; clear hn
        have HO := Lib.hid ho; clear ho
        have hzr := hb.size
        by_cases hlt : k < raw.length
        · have qk := HC.out _ hb k hlt
          have hp12 := HSZ.out k (HLI.out k hlt)
          have HST := Lib.hid (filter_step raw k (HLI.out k hlt) (nv kind))
          generalize gs raw k = p at qk hp12 HST
          cases hov : overB kind p
          · have HF : Hid ((raw.take (k + 1)).filter (nv kind) = (raw.take k).filter (nv kind) ++ [p]) := by show _ = _; rw [HST.out, if_pos (by simp [nv, hov])]
            have HOV := Lib.hid hov; clear hov
            have HL : Hid (n + 1 = ((raw.take (k + 1)).filter (nv kind)).length) := by show _ = _; rw [HF.out, List.length_append, ← HN.out]; rfl
            go_wp2_with fail
            refine (overI_any kind p wr h1 h2 hp12).mono ?_; rintro e w3 ⟨rfl, hb3⟩
            rw [HOV.out]
            have hb4 := gtr hb hb3
            have hz3 := hb3.size
            have HO4 := Lib.hid (HO.out.below hb3)
            have qk3 := HC.out _ hb4 k hlt
            go_wp2_with (at_builtin; refine append_str rfl _ _ rfl V.heap.size _ ((raw.take k).filter (nv kind)) rfl (HO4.out.below (bel1 _ _)) _ p rfl ((Blk.new _ _ _).cell 0) (by rw [← HN.out]; omega) (by simp; omega) ?_; intro A5 c5 w5 ho5 hb5 hg5; rw [← HF.out, ← HN.out] at ho5; rw [← HN.out])
            have HO5 := Lib.hid ho5; clear ho5
            go_roundw
            case rel => exact ⟨k + 1, A5, c5, n + 1, by go_num, by omega, HL.out, rfl, HO5.out, (hb4.alloc (by omega) _).trans hb5⟩
            case measure => simp [intOf]; omega
          · have HF : Hid ((raw.take (k + 1)).filter (nv kind) = (raw.take k).filter (nv kind)) := by show _ = _; rw [HST.out, if_neg (by simp [nv, hov])]
            have HOV := Lib.hid hov; clear hov
            go_wp2_with fail
            refine (overI_any kind p wr h1 h2 hp12).mono ?_; rintro e w3 ⟨rfl, hb3⟩
            rw [HOV.out]
            have hb4 := gtr hb hb3
            have HO4 := Lib.hid (HO.out.below hb3)
            go_wp2
            go_roundw
            case rel => exact ⟨k + 1, A', c', n, by go_num, by omega, by rw [HF.out]; exact HN.out, rfl, by rw [HF.out]; exact HO4.out, hb4⟩
            case measure => simp [intOf]; omega
        · obtain rfl : k = raw.length := by omega
          have HE : Hid (raw.take raw.length = raw) := List.take_of_length_le HLE.out
          rw [HE.out] at HN HO
          go_wp2
          go_ret
          rw [HPL.out]
          exact RetS.mk (HO.out.le hwV) HN.out (hBV.trans (hb.mono hwV))
    · have hR : ∀ w, Calls Tryd.prog 124 #[.string s] w (RetS w (rawL kind s)) := fun w => by
        have e : rawL kind s = runsL s := by rw [rawL, if_neg hk0, if_neg hk1]
        rw [e]
        exact runsI_any s w (by omega)
      have t1 : (kind == 1) = false := by simp [hk1]
      generalize rawL kind s = raw at HSZ HPL hrl HLI HLE hR
      have h23 : kind = 2 ∨ kind = 3 := by omega
      clear hk0 h1'
      rcases h23 with hk2 | hk2
      · have t2 : (kind == 2) = true := by rw [hk2]; rfl
        have t3 : (kind == 3) = false := by rw [hk2]; rfl
        clear hk1 hk2
        go_enter Tryd.func94, Tryd.ntmps94
        go_wp2_with fail
        obtain ⟨W, hW⟩ : ∃ W, W = w.alloc (.cells #[.string s] 9) := ⟨_, rfl⟩
        have hAW : Below w.heap.size w W := by rw [hW]; exact bel1 _ _
        rw [← hW]
        clear hW
        refine (hR W).mono ?_; rintro e V ⟨A0, c0, rfl, hor, hbV⟩
        have hBV : Below w.heap.size w V := gtr hAW hbV
        have hwV := hBV.size
        have hrd := hor.rd
        have hcl := hrd.len
        have hcm := hrd.max
        rw [scells_len] at hcl
        by_cases hz : raw.length = 0
        · have HRE := Lib.hid (List.length_eq_zero_iff.1 hz)
          have HO0 : Hid (Own (V.alloc (.cells #[] 9)) w.heap.size 9 (.slice (some ⟨V.heap.size, 0, none⟩) 0 0) (scells [])) := Own.empty V 9 _ _ hwV
          have HB0 : Hid (Below w.heap.size w (V.alloc (.cells #[] 9))) := hBV.trans ((bel1 V _).mono hwV)
          have HPE : Hid (partsL kind s = []) := by show _ = _; rw [HPL.out, HRE.out]; rfl
          clear hrd hor
          go_wp2
          go_loopw [6, 8, 24] (fun v _ i wr => i = .int .i64 0 ∧ v = .slice (some ⟨V.heap.size, 0, none⟩) 0 0 ∧ wr = V.alloc (.cells #[] 9)) (fun _ _ _ _ => 0)
          case atStart => exact ⟨rfl, rfl, rfl⟩
          case round =>
            obtain ⟨rfl, rfl, rfl⟩ := hrel
            go_wp2
            go_ret
            rw [HPE.out]
            exact RetS.mk HO0.out rfl HB0.out
        · obtain ⟨b, o, rfl, hbB, hc⟩ := hrd.at (j := 0) (by rw [scells_len]; omega)
          clear hrd hor
          have HC : Hid (∀ w', Below V.heap.size V w' → ∀ i, i < raw.length → w'.cell? ⟨b, o + i, none⟩ = some (.string (gs raw i))) := fun w' hbb i hi => (hbb.cell (p := ⟨b, o + i, none⟩) hbB).trans (hc i _ (gs_at raw i (HLI.out i hi)))
          clear hc
          go_wp2
          go_loopw [6, 8, 24] (fun v _ i wr => ∃ (k : Nat) (A' : Option Addr) (c' n : Nat), i = .int .i64 k ∧ k ≤ raw.length ∧ n = ((raw.take k).filter (nv kind)).length ∧ v = .slice A' n c' ∧ Own wr V.heap.size 9 (.slice A' n c') (scells ((raw.take k).filter (nv kind))) ∧ Below V.heap.size V wr) (fun _ _ i _ => raw.length - (intOf i).toNat)
          case atStart => exact ⟨0, _, _, 0, rfl, by omega, rfl, rfl, Own.empty V 9 _ _ (Nat.le_refl _), bel1 _ _⟩
          case round =>
            obtain ⟨k, A', c', n, rfl, hk, hn, rfl, ho, hb⟩ := hrel
            have hnl : ((raw.take k).filter (nv kind)).length ≤ 20 := by
              have h1 := List.length_filter_le (nv kind) (raw.take k)
              rw [List.length_take] at h1
              omega
            rw [← hn] at hnl
            have HN := Lib.hid hn; clear hn
            have HO := Lib.hid ho; clear ho
            have hzr := hb.size
            by_cases hlt : k < raw.length
            · have qk := HC.out _ hb k hlt
              have hp12 := HSZ.out k (HLI.out k hlt)
              have HST := Lib.hid (filter_step raw k (HLI.out k hlt) (nv kind))
              generalize gs raw k = p at qk hp12 HST
              cases hov : overB kind p
              · have HF : Hid ((raw.take (k + 1)).filter (nv kind) = (raw.take k).filter (nv kind) ++ [p]) := by show _ = _; rw [HST.out, if_pos (by simp [nv, hov])]
                have HOV := Lib.hid hov; clear hov
                have HL : Hid (n + 1 = ((raw.take (k + 1)).filter (nv kind)).length) := by show _ = _; rw [HF.out, List.length_append, ← HN.out]; rfl
                go_wp2_with fail
                refine (overI_any kind p wr h1 h2 hp12).mono ?_; rintro e w3 ⟨rfl, hb3⟩
                rw [HOV.out]
                have hb4 := gtr hb hb3
                have hz3 := hb3.size
                have HO4 := Lib.hid (HO.out.below hb3)
                have qk3 := HC.out _ hb4 k hlt
                go_wp2_with (at_builtin; refine append_str rfl _ _ rfl V.heap.size _ ((raw.take k).filter (nv kind)) rfl (HO4.out.below (bel1 _ _)) _ p rfl ((Blk.new _ _ _).cell 0) (by rw [← HN.out]; omega) (by simp; omega) ?_; intro A5 c5 w5 ho5 hb5 hg5; rw [← HF.out, ← HN.out] at ho5; rw [← HN.out])
                have HO5 := Lib.hid ho5; clear ho5
                go_roundw
                case rel => exact ⟨k + 1, A5, c5, n + 1, by go_num, by omega, HL.out, rfl, HO5.out, (hb4.alloc (by omega) _).trans hb5⟩
                case measure => simp [intOf]; omega
              · have HF : Hid ((raw.take (k + 1)).filter (nv kind) = (raw.take k).filter (nv kind)) := by show _ = _; rw [HST.out, if_neg (by simp [nv, hov])]
                have HOV := Lib.hid hov; clear hov
                go_wp2_with fail
                refine (overI_any kind p wr h1 h2 hp12).mono ?_; rintro e w3 ⟨rfl, hb3⟩
                rw [HOV.out]
                have hb4 := gtr hb hb3
                have HO4 := Lib.hid (HO.out.below hb3)
                go_wp2
                go_roundw
                case rel => exact ⟨k + 1, A', c', n, by go_num, by omega, by rw [HF.out]; exact HN.out, rfl, by rw [HF.out]; exact HO4.out, hb4⟩
                case measure => simp [intOf]; omega
            · obtain rfl : k = raw.length := by omega
              have HE : Hid (raw.take raw.length = raw) := List.take_of_length_le HLE.out
              rw [HE.out] at HN HO
              go_wp2
              go_ret
              rw [HPL.out]
              exact RetS.mk (HO.out.le hwV) HN.out (hBV.trans (hb.mono hwV))
      · have t2 : (kind == 2) = false := by rw [hk2]; rfl
        have t3 : (kind == 3) = true := by rw [hk2]; rfl
        clear hk1 hk2
        go_enter Tryd.func94, Tryd.ntmps94
        go_wp2_with fail
        obtain ⟨W, hW⟩ : ∃ W, W = w.alloc (.cells #[.string s] 9) := ⟨_, rfl⟩
        have hAW : Below w.heap.size w W := by rw [hW]; exact bel1 _ _
        rw [← hW]
        clear hW
        refine (hR W).mono ?_; rintro e V ⟨A0, c0, rfl, hor, hbV⟩
        have hBV : Below w.heap.size w V := gtr hAW hbV
        have hwV := hBV.size
        have hrd := hor.rd
        have hcl := hrd.len
        have hcm := hrd.max
        rw [scells_len] at hcl
        by_cases hz : raw.length = 0
        · have HRE := Lib.hid (List.length_eq_zero_iff.1 hz)
          have HO0 : Hid (Own (V.alloc (.cells #[] 9)) w.heap.size 9 (.slice (some ⟨V.heap.size, 0, none⟩) 0 0) (scells [])) := Own.empty V 9 _ _ hwV
          have HB0 : Hid (Below w.heap.size w (V.alloc (.cells #[] 9))) := hBV.trans ((bel1 V _).mono hwV)
          have HPE : Hid (partsL kind s = []) := by show _ = _; rw [HPL.out, HRE.out]; rfl
          clear hrd hor
          go_wp2
          go_loopw [6, 8, 24] (fun v _ i wr => i = .int .i64 0 ∧ v = .slice (some ⟨V.heap.size, 0, none⟩) 0 0 ∧ wr = V.alloc (.cells #[] 9)) (fun _ _ _ _ => 0)
          case atStart => exact ⟨rfl, rfl, rfl⟩
          case round =>
            obtain ⟨rfl, rfl, rfl⟩ := hrel
            go_wp2
            go_ret
            rw [HPE.out]
            exact RetS.mk HO0.out rfl HB0.out
        · obtain ⟨b, o, rfl, hbB, hc⟩ := hrd.at (j := 0) (by rw [scells_len]; omega)
          clear hrd hor
          have HC : Hid (∀ w', Below V.heap.size V w' → ∀ i, i < raw.length → w'.cell? ⟨b, o + i, none⟩ = some (.string (gs raw i))) := fun w' hbb i hi => (hbb.cell (p := ⟨b, o + i, none⟩) hbB).trans (hc i _ (gs_at raw i (HLI.out i hi)))
          clear hc
          go_wp2
          go_loopw [6, 8, 24] (fun v _ i wr => ∃ (k : Nat) (A' : Option Addr) (c' n : Nat), i = .int .i64 k ∧ k ≤ raw.length ∧ n = ((raw.take k).filter (nv kind)).length ∧ v = .slice A' n c' ∧ Own wr V.heap.size 9 (.slice A' n c') (scells ((raw.take k).filter (nv kind))) ∧ Below V.heap.size V wr) (fun _ _ i _ => raw.length - (intOf i).toNat)
          case atStart => exact ⟨0, _, _, 0, rfl, by omega, rfl, rfl, Own.empty V 9 _ _ (Nat.le_refl _), bel1 _ _⟩
          case round =>
            obtain ⟨k, A', c', n, rfl, hk, hn, rfl, ho, hb⟩ := hrel
            have hnl : ((raw.take k).filter (nv kind)).length ≤ 20 := by
              have h1 := List.length_filter_le (nv kind) (raw.take k)
              rw [List.length_take] at h1
              omega
            rw [← hn] at hnl
            have HN := Lib.hid hn; clear hn
            have HO := Lib.hid ho; clear ho
            have hzr := hb.size
            by_cases hlt : k < raw.length
            · have qk := HC.out _ hb k hlt
              have hp12 := HSZ.out k (HLI.out k hlt)
              have HST := Lib.hid (filter_step raw k (HLI.out k hlt) (nv kind))
              generalize gs raw k = p at qk hp12 HST
              cases hov : overB kind p
              · have HF : Hid ((raw.take (k + 1)).filter (nv kind) = (raw.take k).filter (nv kind) ++ [p]) := by show _ = _; rw [HST.out, if_pos (by simp [nv, hov])]
                have HOV := Lib.hid hov; clear hov
                have HL : Hid (n + 1 = ((raw.take (k + 1)).filter (nv kind)).length) := by show _ = _; rw [HF.out, List.length_append, ← HN.out]; rfl
                go_wp2_with fail
                refine (overI_any kind p wr h1 h2 hp12).mono ?_; rintro e w3 ⟨rfl, hb3⟩
                rw [HOV.out]
                have hb4 := gtr hb hb3
                have hz3 := hb3.size
                have HO4 := Lib.hid (HO.out.below hb3)
                have qk3 := HC.out _ hb4 k hlt
                go_wp2_with (at_builtin; refine append_str rfl _ _ rfl V.heap.size _ ((raw.take k).filter (nv kind)) rfl (HO4.out.below (bel1 _ _)) _ p rfl ((Blk.new _ _ _).cell 0) (by rw [← HN.out]; omega) (by simp; omega) ?_; intro A5 c5 w5 ho5 hb5 hg5; rw [← HF.out, ← HN.out] at ho5; rw [← HN.out])
                have HO5 := Lib.hid ho5; clear ho5
                go_roundw
                case rel => exact ⟨k + 1, A5, c5, n + 1, by go_num, by omega, HL.out, rfl, HO5.out, (hb4.alloc (by omega) _).trans hb5⟩
                case measure => simp [intOf]; omega
              · have HF : Hid ((raw.take (k + 1)).filter (nv kind) = (raw.take k).filter (nv kind)) := by show _ = _; rw [HST.out, if_neg (by simp [nv, hov])]
                have HOV := Lib.hid hov; clear hov
                go_wp2_with fail
                refine (overI_any kind p wr h1 h2 hp12).mono ?_; rintro e w3 ⟨rfl, hb3⟩
                rw [HOV.out]
                have hb4 := gtr hb hb3
                have HO4 := Lib.hid (HO.out.below hb3)
                go_wp2
                go_roundw
                case rel => exact ⟨k + 1, A', c', n, by go_num, by omega, by rw [HF.out]; exact HN.out, rfl, by rw [HF.out]; exact HO4.out, hb4⟩
                case measure => simp [intOf]; omega
            · obtain rfl : k = raw.length := by omega
              have HE : Hid (raw.take raw.length = raw) := List.take_of_length_le HLE.out
              rw [HE.out] at HN HO
              go_wp2
              go_ret
              rw [HPL.out]
              exact RetS.mk (HO.out.le hwV) HN.out (hBV.trans (hb.mono hwV))

def resP (kind : Int) (s : ByteArray) : List ByteArray := if stripB kind s = true then partsL kind s else []
theorem resP_le (kind : Int) (s : ByteArray) : (resP kind s).length ≤ 24 := by
  unfold resP
  split
  · rename_i h
    have h1 := (stripB_of h).2.2.1
    have h2 := List.length_filter_le (nv kind) (rawL kind s)
    have h3 := rawL_len kind s
    unfold partsL
    omega
  · simp
set_option maxHeartbeats 400000 in
theorem stripPartsS_any (kind : Int) (s : ByteArray) (w : World) (hs : s.size ≤ maxLen) :
    Calls Tryd.prog 49 #[.int .i64 kind, .string s] w (RetSB w (resP kind s) (stripB kind s)) := by
  cases hg : stripB kind s
  · have HT : Hid (resP kind s = []) := by show _ = _; rw [resP, hg]; rfl
    go_enter Tryd.func49, Tryd.ntmps49
    go_wp2_with (go_at_call 64; (with_reducible refine (goodStripS_any kind s _ hs).mono ?_); rintro e w1 ⟨rfl, rfl⟩)
    go_ret2
    exact ⟨none, 0, by rw [HT.out]; rfl, by rw [HT.out]; exact own_nil _ _ _, Below.refl _ _⟩
  · obtain ⟨h1, h2, h3, h4⟩ := stripB_of hg
    clear h4
    have HT : Hid (resP kind s = partsL kind s) := by show _ = _; rw [resP, if_pos hg]
    go_enter Tryd.func49, Tryd.ntmps49
    go_wp2_with (first | (go_at_call 64; (with_reducible refine (goodStripS_any kind s _ hs).mono ?_); rintro e w1 ⟨rfl, rfl⟩) | (go_at_call 93; (with_reducible refine (partsS_any kind s _ h1 h2 h3).mono ?_); rintro e w2 ⟨A, c, rfl, ho, hb⟩))
    go_ret2
    exact ⟨A, c, by rw [HT.out]; rfl, by rw [HT.out]; exact ho, hb⟩
set_option maxHeartbeats 400000 in
theorem stripPartsI_any (kind : Int) (s : ByteArray) (w : World) (hs : s.size ≤ maxLen) :
    Calls Tryd.prog 50 #[.int .i64 kind, .string s] w (RetSB w (resP kind s) (stripB kind s)) := by
  cases hg : stripB kind s
  · have HT : Hid (resP kind s = []) := by show _ = _; rw [resP, hg]; rfl
    go_enter Tryd.func50, Tryd.ntmps50
    go_wp2_with (go_at_call 66; (with_reducible refine (goodStripI_any kind s _ hs).mono ?_); rintro e w1 ⟨rfl, hb1⟩)
    go_ret2
    exact ⟨none, 0, by rw [HT.out]; rfl, by rw [HT.out]; exact own_nil _ _ _, hb1⟩
  · obtain ⟨h1, h2, h3, h4⟩ := stripB_of hg
    clear h4
    have HT : Hid (resP kind s = partsL kind s) := by show _ = _; rw [resP, if_pos hg]
    go_enter Tryd.func50, Tryd.ntmps50
    go_wp2_with (first | (go_at_call 66; (with_reducible refine (goodStripI_any kind s _ hs).mono ?_); rintro e w1 ⟨rfl, hb1⟩) | (go_at_call 94; (with_reducible refine (partsI_any kind s _ h1 h2 h3).mono ?_); rintro e w2 ⟨A, c, rfl, ho, hb⟩))
    go_ret2
    exact ⟨A, c, by rw [HT.out]; rfl, by rw [HT.out]; exact ho.le hb1.size, hb1.trans (hb.mono hb1.size)⟩
set_option maxHeartbeats 800000 in
theorem lawStripParts (kind : Int) (s : ByteArray) (w : World) (hkw : (Lit.int .i64 kind).wf = true) (hs : s.size ≤ maxLen) :
    Calls Tryd.prog 12 #[.int .i64 kind, .string s] w fun e w' => e = .returned (.bool true) ∧ Below w.heap.size w w' := by
  have hs' := hs
  unfold maxLen at hs'
  by_cases h : (s.size : Int) ≤ 1048576
  · have hle := resP_le kind s
    obtain ⟨ss, hss⟩ : ∃ ss, ss = resP kind s := ⟨_, rfl⟩
    obtain ⟨b, hbb⟩ : ∃ b, b = stripB kind s := ⟨_, rfl⟩
    have hS : ∀ w, Calls Tryd.prog 49 #[.int .i64 kind, .string s] w (RetSB w ss b) := fun w => by rw [hss, hbb]; exact stripPartsS_any kind s w hs
    have hI : ∀ w, Calls Tryd.prog 50 #[.int .i64 kind, .string s] w (RetSB w ss b) := fun w => by rw [hss, hbb]; exact stripPartsI_any kind s w hs
    rw [← hss] at hle
    clear hss hbb
    go_enter Tryd.func12, Tryd.ntmps12
    go_wp2_with fail
    refine (hS _).mono ?_; rintro e w1 ⟨A1, c1, rfl, ho1, hb1⟩
    have hz1 := hb1.size
    go_wp2_with fail
    refine (hI _).mono ?_; rintro e w2 ⟨A2, c2, rfl, ho2, hb2⟩
    have hz2 := hb2.size
    have ho1a := ho1.below hb2
    go_wp2_with fail
    refine (eqStr_same A2 A1 c2 c1 ss w2 w2.heap.size (Nat.le_refl _) ho2.rd ho1a.rd).mono ?_; rintro e w3 ⟨rfl, hb3⟩
    have hz3 := hb3.size
    have ho2a := ho2.below hb3
    have ho1b := ho1a.below hb3
    go_wp2_with fail
    refine (markStr_any A2 c2 ss 1 w3 w1.heap.size ho2a (by omega) (by omega) (by omega)).mono ?_; rintro e w4 ⟨rfl, ho4, hb4⟩
    have hz4 := hb4.size
    have hr4 := ho4.rd
    have ho1c : Own w4 w.heap.size 9 (.slice A1 ss.length c1) (scells ss) := ownsRow_below ho1 ((hb2.trans (hb3.mono hz2)).trans hb4) fun g hg => (ho1.lt g hg).2
    go_wp2_with fail
    refine (heldStr_any A2 c2 ss.length 1 w4 w4.heap.size (Nat.le_refl _) hr4 (by omega) (by omega)).mono ?_; rintro e w5 ⟨rfl, hb5⟩
    have hz5 := hb5.size
    have hno : ¬ ((1 + ss.length : Nat) : Int) < 0 := by omega
    go_wp2_with fail
    refine (hI _).mono ?_; rintro e w6 ⟨A6, c6, rfl, ho6, hb6⟩
    have hz6 := hb6.size
    have ho1d := (ho1c.below hb5).below hb6
    have ho4d := (ho4.below hb5).below hb6
    go_wp2_with fail
    refine (eqStr_same A6 A1 c6 c1 ss w6 w6.heap.size (Nat.le_refl _) ho6.rd ho1d.rd).mono ?_; rintro e w7 ⟨rfl, hb7⟩
    have hz7 := hb7.size
    go_wp2_with fail
    refine (heldStr_any A2 c2 ss.length 1 w7 w7.heap.size (Nat.le_refl _) (ho4d.below hb7).rd (by omega) (by omega)).mono ?_; rintro e w8 ⟨rfl, hb8⟩
    go_wp2
    go_ret
    refine ⟨rfl, ?_⟩
    have t1 : Below w.heap.size w w3 := (hb1.trans (hb2.mono hz1)).trans (hb3.mono (by omega))
    have t2 : Below w.heap.size w w4 := t1.trans (hb4.mono hz1)
    exact (((t2.trans (hb5.mono (by omega))).trans (hb6.mono (by omega))).trans (hb7.mono (by omega))).trans (hb8.mono (by omega))
  · go_enter Tryd.func12, Tryd.ntmps12
    go_wp2_with fail
    go_ret
    exact ⟨rfl, Below.refl _ _⟩


end Go.Proofs.YtgnlnemhlikfnaaDoor
