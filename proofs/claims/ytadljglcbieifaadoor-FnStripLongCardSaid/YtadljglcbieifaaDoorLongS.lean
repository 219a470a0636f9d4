/- The reference's longest play, with its list of what is known. Conditions: none. -/
import Derived.Test.YtadljglcbieifaaDoorLongI
import Derived.Test.YtadljglcbieifaaDoorMemAt
namespace Go.Proofs.YtadljglcbieifaaDoor
open Go.RowKit Go.Maps
set_option linter.unusedVariables false

theorem str_at {w : World} {ops : Array Oper} {rest : List Oper} {o : Oper} {a : Act} {Q : Exit → Act → World → Prop} (hgd : o.guard = none) (s x : Operand)
    (ho : o.op = .call { callee := .builtin .append, args := #[s, x], argTypes := #[53, 53] })
    (base : Nat) (v : Value) (ss : List ByteArray) (hs : a.eval s = v) (hown : Own w base 9 v (scells ss)) (g : Nat) (u : ByteArray) (hx : a.eval x = .slice (some ⟨g, 0, none⟩) 1 1) (hc : Blk w g 9 #[.string u])
    (hlen : ss.length ≤ 900000000) (hbase : base ≤ w.heap.size)
    (h : ∀ A c w', Own w' base 9 (.slice A (ss.length + 1) c) (scells (ss ++ [u])) → Below base w w' → w.grownBy w' v.ownBlock → ((Value.slice A (ss.length + 1) c).ownBlock = v.ownBlock ∨ (Value.slice A (ss.length + 1) c).ownBlock = some w.heap.size) → wpList Tryd.prog ops Q rest (a.put o.dst (.slice A (ss.length + 1) c)) w') :
    wpList Tryd.prog ops Q (o :: rest) a w := by
  refine wpList_append_at hgd s x 53 9 (.string ByteArray.empty) 16 ho Tryd.underlying53 infoStr rfl (by omega) base v (scells ss) hs hown (g + 1) (some ⟨g, 0, none⟩) 1 1 [.string u] hx rfl (Rd.of_blk hc (Nat.lt_succ_self _)) (fun u hu => by simp at hu; subst hu; rfl) (by rw [scells_len]; simp; omega) hbase ?_
  intro A c w' k1 k2 k3 k4
  rw [scells_len, List.length_singleton] at k1 k4 ⊢
  refine h A c w' ?_ k2 k3 k4
  rw [scells_snoc]; exact k1

theorem sne {x s : ByteArray} (h : x ≠ s) : (x.toList == s.toList) = false := by
  rw [beq_eq_false_iff_ne]
  intro e
  rw [ByteArray.toList_eq, ByteArray.toList_eq] at e
  exact h (str_inj e)
theorem most_any (a b : Int) (w : World) : Calls Tryd.prog 155 #[.int .i64 a, .int .i64 b] w fun e w' => e = .returned (.int .i64 (max a b)) ∧ w' = w := by
  by_cases h : b < a
  · have e : max a b = a := by omega
    have HE := Lib.hid e; clear e
    go_enter Tryd.func155, Tryd.ntmps155
    go_wp2
    go_ret
    exact ⟨by rw [HE.out]; rfl, rfl⟩
  · have e : max a b = b := by omega
    have HE := Lib.hid e; clear e
    go_enter Tryd.func155, Tryd.ntmps155
    go_wp2
    go_ret
    exact ⟨by rw [HE.out]; rfl, rfl⟩

/-- What the book at block g holds: its own block, and those of its two lists. -/
def Held (w : World) (g k : Nat) : Prop := k = g ∨ (∃ v, w.cell? ⟨g, 1, none⟩ = some v ∧ v.ownBlock = some k) ∨ (∃ v, w.cell? ⟨g, 2, none⟩ = some v ∧ v.ownBlock = some k)
/-- Nothing has turned but what the book holds. -/
def Bk (w w' : World) (g : Nat) : Prop := w'.os = w.os ∧ w'.tape = w.tape ∧ w'.output = w.output ∧ w.heap.size ≤ w'.heap.size ∧ ∀ k, k < w.heap.size → ¬ Held w g k → w'.heap[k]? = w.heap[k]? ∧ ¬ Held w' g k
theorem Bk.refl (w : World) (g : Nat) : Bk w w g := ⟨rfl, rfl, rfl, Nat.le_refl _, fun k _ h => ⟨rfl, h⟩⟩
theorem Bk.trans {a b c : World} {g : Nat} (h : Bk a b g) (k : Bk b c g) : Bk a c g := by
  obtain ⟨h1, h2, h3, h4, h5⟩ := h
  obtain ⟨k1, k2, k3, k4, k5⟩ := k
  refine ⟨k1.trans h1, k2.trans h2, k3.trans h3, Nat.le_trans h4 k4, fun j hj hn => ?_⟩
  obtain ⟨e1, e2⟩ := h5 j hj hn
  obtain ⟨e3, e4⟩ := k5 j (by omega) e2
  exact ⟨e3.trans e1, e4⟩
theorem Held.below {w w' : World} {g k : Nat} (hb : Below w.heap.size w w') (hg : g < w.heap.size) : Held w' g k ↔ Held w g k := by
  unfold Held
  rw [hb.cell (p := ⟨g, 1, none⟩) hg, hb.cell (p := ⟨g, 2, none⟩) hg]
theorem Bk.of_below {w w' : World} {g : Nat} (hb : Below w.heap.size w w') (hg : g < w.heap.size) : Bk w w' g :=
  ⟨hb.os, hb.tape, hb.output, hb.size, fun k hk hn => ⟨hb.block k hk, fun h => hn ((Held.below hb hg).1 h)⟩⟩
theorem Own.bk {w w' : World} {base : Nat} {E : TypeId} {v : Value} {cs : List Value} {g : Nat} (h : Own w base E v cs) (hb : Bk w w' g) (hn : ∀ k, v.ownBlock = some k → ¬ Held w g k) : Own w' base E v cs := by
  have hl := h.lt
  obtain ⟨h1, h2⟩ := h
  refine ⟨h1, ?_⟩
  rcases h2 with h2 | ⟨k, cap, cur, hv, hgb, hh, r⟩
  · exact Or.inl h2
  · have hk := hl k (by rw [hv]; rfl)
    exact Or.inr ⟨k, cap, cur, hv, hgb, (hb.2.2.2.2 k hk.2 (hn k (by rw [hv]; rfl))).1.trans hh, r⟩

/-- The book at block g knows the strips K. -/
def BookL (w : World) (g : Nat) (kind : Int) (n : Nat) (K : List ByteArray) : Prop :=
  ∃ At ct Am cm, Blk w g 120 #[.int .i64 kind, .slice At K.length ct, .slice Am K.length cm] ∧ Own w (g + 1) 9 (.slice At K.length ct) (scells K) ∧
    Own w (g + 1) 3 (.slice Am K.length cm) (ints (K.map fun t => (lg kind t : Int))) ∧ (∀ b, (Value.slice At K.length ct).ownBlock = some b → (Value.slice Am K.length cm).ownBlock ≠ some b) ∧ K.Nodup ∧ ∀ t ∈ K, In3 kind n t
theorem BookL.below {w w' : World} {g n : Nat} {kind : Int} {K : List ByteArray} (h : BookL w g kind n K) (hb : Below w.heap.size w w') : BookL w' g kind n K := by
  obtain ⟨At, ct, Am, cm, h1, h2, h3, r⟩ := h
  exact ⟨At, ct, Am, cm, h1.below hb h1.lt, h2.below hb, h3.below hb, r⟩
theorem BookL.lt {w : World} {g n : Nat} {kind : Int} {K : List ByteArray} (h : BookL w g kind n K) : g < w.heap.size := by
  obtain ⟨At, ct, Am, cm, h1, _⟩ := h
  exact h1.lt
theorem BookL.held {w : World} {g n : Nat} {kind : Int} {K : List ByteArray} (h : BookL w g kind n K) {k : Nat} (hk : Held w g k) : g ≤ k ∧ k < w.heap.size := by
  obtain ⟨At, ct, Am, cm, h1, h2, h3, r⟩ := h
  have hl := h1.lt
  rcases hk with rfl | ⟨v, hv, hb⟩ | ⟨v, hv, hb⟩
  · exact ⟨Nat.le_refl _, hl⟩
  · rw [h1.cell 1] at hv
    injection hv with hv
    subst hv
    have := h2.lt k hb
    omega
  · rw [h1.cell 2] at hv
    injection hv with hv
    subst hv
    have := h3.lt k hb
    omega

theorem bk_pushed {wr w2 w5 : World} {g : Nat} {T : TypeId} {k0 vt vm v2 v3 : Value} {o1 o2 : Obj} (hB : Blk wr g T #[k0, vt, vm]) (hg2 : (wr.alloc o1).grownBy w2 vt.ownBlock)
    (hat2 : v2.ownBlock = vt.ownBlock ∨ v2.ownBlock = some (wr.alloc o1).heap.size) (hg5 : ((w2.setCell ⟨g, 1, none⟩ v2).alloc o2).grownBy w5 vm.ownBlock)
    (hat5 : v3.ownBlock = vm.ownBlock ∨ v3.ownBlock = some ((w2.setCell ⟨g, 1, none⟩ v2).alloc o2).heap.size) (hBE : Blk (w5.setCell ⟨g, 2, none⟩ v3) g T #[k0, v2, v3]) : Bk wr (w5.setCell ⟨g, 2, none⟩ v3) g := by
  have z2 := hg2.size
  have z5 := hg5.size
  simp at z2 z5
  refine ⟨hg5.os.trans hg2.os, hg5.tape.trans hg2.tape, hg5.output.trans hg2.output, by simp; omega, fun k hk hn => ?_⟩
  have n0 : k ≠ g := fun e => hn (.inl e)
  have n1 : vt.ownBlock ≠ some k := fun e => hn (.inr (.inl ⟨vt, hB.cell 1, e⟩))
  have n2 : vm.ownBlock ≠ some k := fun e => hn (.inr (.inr ⟨vm, hB.cell 2, e⟩))
  refine ⟨?_, ?_⟩
  · rw [Below.heap_setCell _ _ _ _ n0, hg5.block k (by simp; omega) (fun e => n2 e.symm), Below.heap_alloc _ _ _ (by simp; omega), Below.heap_setCell _ _ _ _ n0, hg2.block k (by simp; omega) (fun e => n1 e.symm), Below.heap_alloc _ _ _ hk]
  · rintro (e | ⟨v, hv, e⟩ | ⟨v, hv, e⟩)
    · exact n0 e
    · rw [hBE.cell 1] at hv
      injection hv with hv
      subst hv
      rcases hat2 with h | h
      · exact n1 (h.symm.trans e)
      · have e1 : v2.ownBlock = some k := e
        rw [h] at e1; injection e1 with e1; simp at e1; omega
    · rw [hBE.cell 2] at hv
      injection hv with hv
      subst hv
      rcases hat5 with h | h
      · exact n2 (h.symm.trans e)
      · have e1 : v3.ownBlock = some k := e
        rw [h] at e1; injection e1 with e1; simp at e1; omega

set_option maxRecDepth 100000 in
set_option maxHeartbeats 3200000 in
theorem longS_any (kind : Int) (h1 : 0 ≤ kind) (h2 : kind ≤ 3) (n : Nat) (hn7 : n ≤ 7) : ∀ (m : Nat) (s : ByteArray) (w : World) (g : Nat) (K : List ByteArray), In3 kind n s → mu kind s < m → BookL w g kind n K →
    Calls Tryd.prog 103 #[.pointer (some ⟨g, 0, none⟩), .string s] w fun e w' =>
      e = .returned (.int .i64 (lg kind s)) ∧ (∃ K', BookL w' g kind n K' ∧ ∀ t ∈ K', t ∈ K ∨ mu kind t ≤ mu kind s) ∧ Bk w w' g := by
  intro m
  induction m with
  | zero => intro s w b K _ h; omega
  | succ m ih =>
    intro s w g K hs hmu hM
    have HI := Lib.hid ih; clear ih
    have hsz : s.size ≤ 12 := by have := hs.1; omega
    have HS := Lib.hid hs
    clear hs
    have HM := Lib.hid hM
    have hlt0 := hM.lt
    obtain ⟨At, ct, Am, cm, hB, ht, hm, hap, hd, hK⟩ := hM
    have hfew := few hn7 K hd hK
    have q0 : w.cell? ⟨g, 0, none⟩ = some (.int .i64 kind) := hB.cell 0
    have q1 : w.cell? ⟨g, 1, none⟩ = some (.slice At K.length ct) := hB.cell 1
    have q2 : w.cell? ⟨g, 2, none⟩ = some (.slice Am K.length cm) := hB.cell 2
    have HT := Lib.hid ht.rd; have HMO := Lib.hid hm.rd
    clear ht hm hap hd hK hB
    go_enter Tryd.func103, Tryd.ntmps103
    go_wp2
    go_loopw [5] (fun i wr => ∃ k : Nat, i = .int .i64 k ∧ k ≤ K.length ∧ (∀ j, j < k → K[j]? ≠ some s) ∧ wr = w) (fun i _ => K.length - (intOf i).toNat)
    case atStart => exact ⟨0, rfl, by omega, fun j hj => by omega, rfl⟩
    case round =>
      obtain ⟨k, rfl, hk, hno, hw⟩ := hrel
      have hw' := hw.symm
      subst hw'
      clear hw
      have HNO := Lib.hid hno; clear hno
      by_cases hlt : k < K.length
      · obtain ⟨b1, o1, rfl, hb1, hc1⟩ := HT.out.at (j := k) (by rw [scells_len]; exact hlt)
        have c1 := hc1 k _ (scells_at K k K[k] (List.getElem?_eq_getElem hlt))
        by_cases he : K[k] = s
        · rw [he] at c1
          have hk2 : (ints (K.map fun t => (lg kind t : Int)))[k]? = some (.int .i64 (lg kind s)) := by simp [ints, List.getElem?_eq_getElem hlt, he]
          obtain ⟨b2, o2, rfl, hb2, hc2⟩ := HMO.out.at (j := k) (by simp [ints]; exact hlt)
          have c2 := hc2 k _ hk2
          have hh := hlt
          clear hc1 hc2 he hk2
          go_wp2
          go_ret
          exact ⟨rfl, ⟨K, HM.out, fun t ht => .inl ht⟩, Bk.refl _ _⟩
        · obtain ⟨x, hx⟩ : ∃ x, x = K[k] := ⟨_, rfl⟩
          rw [← hx] at he c1
          have HX := Lib.hid hx; clear hx hc1
          have hbe := sne he
          go_wp2
          go_roundw
          case rel =>
            refine ⟨k + 1, by go_num, by omega, fun j hj => ?_, trivial⟩
            by_cases hjk : j = k
            · subst hjk
              rw [List.getElem?_eq_getElem hlt]
              intro e
              injection e with e
              exact he (HX.out.trans e)
            · exact HNO.out j (by omega)
          case measure => simp [intOf]; omega
      · obtain rfl : k = K.length := by omega
        have HIN : Hid (s ∉ K) := fun h => by
          obtain ⟨j, hj, e⟩ := List.getElem_of_mem h
          exact HNO.out j hj (by rw [List.getElem?_eq_getElem hj, e])
        clear hk hlt HNO
        go_wp2
        clear q0 q1 q2 HT HMO
        have HLE : Hid (∀ r, r ≤ 2 → ∀ t ∈ sides2 kind s r, In3 kind n t ∧ mu kind t < mu kind s) := fun r hr t ht => by
          rcases r with _ | _ | r
          · simp [sides2] at ht
          · exact moves_mu h1 h2 HS.out ht
          · exact both_mu h1 h2 HS.out ht
        go_loopw [6, 7] (fun n' i wr => ∃ (r : Nat) (K' : List ByteArray), i = .int .i64 r ∧ r ≤ 2 ∧ n' = .int .i64 (mxs (lg kind) (sides2 kind s r)) ∧ BookL wr g kind n K' ∧ (∀ t ∈ K', t ∈ K ∨ mu kind t < mu kind s) ∧ Bk w wr g) (fun _ i _ => 2 - (intOf i).toNat)
        case atStart => exact ⟨0, K, rfl, by omega, rfl, HM.out, fun t ht => .inl ht, Bk.refl _ _⟩
        case round =>
          obtain ⟨r, K', rfl, hr, rfl, hMr, hKr, hgr⟩ := hrel
          by_cases hlt : r < 2
          · have HKR := Lib.hid hKr; clear hKr
            have HLr := Lib.hid (HLE.out (r + 1) (by omega))
            obtain ⟨lf, hlf⟩ : ∃ lf, lf = (r == 0) := ⟨_, rfl⟩
            obtain ⟨ts, hts⟩ : ∃ ts, ts = movesL kind lf s := ⟨_, rfl⟩
            have HN : Hid (sides2 kind s (r + 1) = sides2 kind s r ++ ts) := by show _ = _; rw [hts, hlf]; exact sides2_succ kind s r hlt
            have hCm : ∀ W, Calls Tryd.prog 154 #[.int .i64 kind, .string s, .bool lf] W (RetS W ts) := fun W => by rw [hts]; exact movesS_any kind _ s W h1 h2 hsz
            have HLn : Hid (ts.length ≤ 24) := by show _ ≤ _; rw [hts]; exact movesL_le kind _ s hsz
            clear hts
            have HP : Hid (∀ j, j ≤ ts.length → mxs (lg kind) (sides2 kind s r ++ ts.take j) ≤ 49) := fun j hj => by
              refine mxs_le _ _ _ fun t ht => ?_
              have hm : t ∈ sides2 kind s (r + 1) := by
                rw [HN.out]
                rcases List.mem_append.1 ht with h | h
                · exact List.mem_append_left _ h
                · exact List.mem_append_right _ (List.mem_of_mem_take h)
              obtain ⟨k1, k2⟩ := HLr.out t hm
              have k3 := lg_le h1 h2 _ t k1 (Nat.le_refl _)
              have k4 := mu_le kind s
              have k5 : s.size * s.size ≤ 7 * 7 := Nat.mul_le_mul (by rw [HS.out.1]; exact hn7) (by rw [HS.out.1]; exact hn7)
              omega
            have HTJ : Hid (∀ j, (hj : j < ts.length) → In3 kind n ts[j] ∧ mu kind ts[j] < mu kind s) := fun j hj => HLr.out _ (by rw [HN.out]; exact List.mem_append_right _ (List.getElem_mem hj))
            have HMX : Hid (∀ j, (hj : j < ts.length) → mxs (lg kind) (sides2 kind s r ++ ts.take (j + 1)) = max (mxs (lg kind) (sides2 kind s r ++ ts.take j)) (1 + lg kind ts[j])) := fun j hj => mxs_take _ _ _ j hj
            have HCM := Lib.hid hCm; clear hCm
            have hfin : sides2 kind s (r + 1) = sides2 kind s r ++ ts.take ts.length := by rw [List.take_length]; exact HN.out
            have HFIN := Lib.hid hfin; clear hfin
            generalize sides2 kind s r = Pf at *
            obtain ⟨B0, hB0⟩ : ∃ B0, B0 = wr.heap.size := ⟨_, rfl⟩
            have hlr := hMr.lt
            have q0 : wr.cell? ⟨g, 0, none⟩ = some (.int .i64 kind) := by obtain ⟨_, _, _, _, hB, _⟩ := hMr; exact hB.cell 0
            have HHD : Hid (∀ k, Held wr g k → k < B0) := fun k hk => by rw [hB0]; exact (hMr.held hk).2
            obtain rfl | rfl : r = 0 ∨ r = 1 := by omega
            all_goals
              first
                | (have hlt' : lf = true := by rw [hlf]; rfl
                   subst hlt')
                | (have hlt' : lf = false := by rw [hlf]; rfl
                   subst hlt')
              clear hlf
              go_wp2_with fail
              ((with_reducible refine (HCM.out _).mono ?_); rintro e w1 ⟨A, c, rfl, ho, hb⟩)
              have hM1 := hMr.below hb
              have hg1 := hgr.trans (Bk.of_below hb hlr)
              rw [← hB0] at ho
              have hnh : ∀ k, (Value.slice A ts.length c).ownBlock = some k → ¬ Held w1 g k := fun k hk hh => by
                have := HHD.out k ((Held.below hb hlr).1 hh)
                have := (ho.lt k hk).1
                omega
              clear hMr hgr hb q0 hlr hB0
              go_wp2
              go_loopw [6, 9] (fun n' i wi => ∃ (j : Nat) (K' : List ByteArray), i = .int .i64 j ∧ j ≤ ts.length ∧ n' = .int .i64 (mxs (lg kind) (Pf ++ ts.take j)) ∧ BookL wi g kind n K' ∧ (∀ t ∈ K', t ∈ K ∨ mu kind t < mu kind s) ∧ Bk w wi g ∧ Own wi B0 9 (.slice A ts.length c) (scells ts) ∧ (∀ k, (Value.slice A ts.length c).ownBlock = some k → ¬ Held wi g k)) (fun _ i _ => ts.length - (intOf i).toNat)
              case atStart => exact ⟨0, K', rfl, by omega, by simp, hM1, HKR.out, hg1, ho, hnh⟩
              case round =>
                obtain ⟨j, K2, rfl, hj, rfl, hMj, hKj, hgj, hoj, hnj⟩ := hrel
                clear hM1 hg1 ho hnh
                have HPJ := HP.out j hj
                have hLn := HLn.out
                by_cases hlt2 : j < ts.length
                · obtain ⟨b2, o2, rfl, hbB, hc⟩ := hoj.rd.at (j := j) (by rw [scells_len]; exact hlt2)
                  have hcj := hc j _ (scells_at ts j ts[j] (List.getElem?_eq_getElem hlt2))
                  obtain ⟨k1, k2⟩ := HTJ.out j hlt2
                  have HJ := Lib.hid (HMX.out j hlt2)
                  have hPn := HP.out (j + 1) hlt2
                  rw [HJ.out] at hPn
                  have HCALL := HI.out ts[j] wr g K2 k1 (by omega) hMj
                  generalize ts[j] = t at *
                  have HKJ := Lib.hid hKj; have HOJ := Lib.hid hoj; have HGJ := Lib.hid hgj; have HK2 := Lib.hid k2; have HKC := Lib.hid HCALL; have HNJ := Lib.hid hnj
                  clear hc hKj hoj hgj k1 k2 HCALL hMj hbB hnj
                  obtain ⟨n0, hn0⟩ : ∃ n0, n0 = mxs (lg kind) (Pf ++ ts.take j) := ⟨_, rfl⟩
                  rw [← hn0] at HJ hPn HPJ ⊢
                  clear hn0
                  go_wp2_with fail
                  ((with_reducible refine (HKC.out).mono ?_); rintro e w2 ⟨rfl, ⟨K3, hM3, hK3⟩, hg3⟩)
                  have HM3 := Lib.hid hM3; have HK3 := Lib.hid hK3; have HG3 := Lib.hid hg3
                  clear hM3 hK3 hg3
                  go_wp2_with fail
                  ((with_reducible refine (most_any _ _ _).mono ?_); rintro e w3 ⟨rfl, rfl⟩)
                  go_wp2
                  go_roundw
                  case rel =>
                    refine ⟨j + 1, K3, by go_num, by omega, ?_, HM3.out, ?_, HGJ.out.trans HG3.out, HOJ.out.bk HG3.out HNJ.out, fun k hk => (HG3.out.2.2.2.2 k (HOJ.out.lt k hk).2 (HNJ.out k hk)).2⟩
                    · rw [HJ.out]; go_num
                    · intro x hx
                      rcases HK3.out x hx with h | h
                      · exact HKJ.out x h
                      · exact .inr (by have := HK2.out; omega)
                  case measure => simp [intOf]; omega
                · obtain rfl : j = ts.length := by omega
                  go_wp2
                  go_roundw
                  case rel => first | exact ⟨0 + 1, K2, by go_num, by omega, by rw [HFIN.out], hMj, hKj, hgj⟩ | exact ⟨1 + 1, K2, by go_num, by omega, by rw [HFIN.out], hMj, hKj, hgj⟩
                  case measure => simp [intOf]
          · obtain rfl : r = 2 := by omega
            have hL := lg_eq h1 h2 HS.out
            have e2 : mxs (lg kind) (sides2 kind s 2) = lg kind s := hL.symm
            rw [e2]
            clear hL e2
            have hnin : Hid (s ∉ K') := fun h => by
              rcases hKr s h with h | h
              · exact HIN.out h
              · omega
            have h49 := lg_le49 h1 h2 HS.out hn7
            have HKR := Lib.hid hKr; have HGR := Lib.hid hgr
            clear hKr
            obtain ⟨At, ct, Am, cm, hB, ht, hm, hap, hd, hK⟩ := hMr
            have hfew2 := few hn7 K' hd hK
            have hzw := hgr.2.2.2.1
            have HD := Lib.hid hd; have HK := Lib.hid hK; have HAP := Lib.hid hap
            clear hd hK hap hgr hlt hr
            have hlg := hB.lt
            have q1 : wr.cell? ⟨g, 1, none⟩ = some (.slice At K'.length ct) := hB.cell 1
            have HT := Lib.hid ht; have HM2 := Lib.hid hm; have HB := Lib.hid hB
            have hne1 : some g ≠ (Value.slice At K'.length ct).ownBlock := fun e => by have := (ht.lt g e.symm).1; omega
            have hne2 : ∀ b, (Value.slice Am K'.length cm).ownBlock = some b → b ≠ g := fun b e => by have := (hm.lt b e).1; omega
            have HN1 := Lib.hid hne1; have HN2 := Lib.hid hne2
            clear ht hm hB hne1 hne2
            go_wp2_with (first
              | (at_builtin
                 refine str_at rfl _ _ rfl (g + 1) (.slice At K'.length ct) K' rfl (HT.out.below ((Below.refl _ _).alloc (Nat.le_refl _) _)) _ s rfl (Blk.new _ _ _) (by omega) (by simp; omega) ?_
                 intro A2 c2 w2 ho2 hb2 hg2 hat2
                 have hB2 := (HB.out.alloc (.cells #[.string s] 9)).grown hg2 HN1.out
                 have hB3 : Blk (w2.setCell ⟨g, 1, none⟩ (.slice A2 (K'.length + 1) c2)) g 120 #[.int .i64 kind, .slice A2 (K'.length + 1) c2, .slice Am K'.length cm] := hB2.set 1 _
                 have p1 : w2.cell? ⟨g, 1, none⟩ = some (.slice At K'.length ct) := hB2.cell 1
                 have p2 : w2.cell? ⟨g, 2, none⟩ = some (.slice Am K'.length cm) := hB2.cell 2
                 have z1 := hB2.frozen 1
                 have hm3 := ((HM2.out.below ((Below.refl _ _).alloc (Nat.le_refl _) (.cells #[.string s] 9))).grown hg2 (Classical.or_iff_not_imp_left.2 fun hn e => by obtain ⟨b, hb⟩ := Option.ne_none_iff_exists'.1 hn; exact HAP.out b (e.symm.trans hb) hb)).far ⟨g, 1, none⟩ (.slice A2 (K'.length + 1) c2) (fun e => HN2.out g e rfl)
                 have hz2 : g + 1 ≤ w2.heap.size := by have := hg2.size; simp at this; omega
                 have HO2 := Lib.hid ho2; have HG2 := Lib.hid hg2; have HA2 := Lib.hid hat2; have HB2 := Lib.hid hB2; have HB3 := Lib.hid hB3; have HM3 := Lib.hid hm3
                 clear ho2 hb2 hg2 hat2 hB2 hB3 hm3)
              | (at_builtin
                 go_loud (
                 refine append_int_at rfl _ _ rfl (g + 1) (.slice Am K'.length cm) (K'.map fun t => (lg kind t : Int)) rfl (own_ints.2 (HM3.out.below ((Below.refl _ _).alloc (Nat.le_refl _) _))) _ (lg kind s) rfl (Blk.new_at _ _ _ (by simp)) (by rw [List.length_map]; omega) (by simp; omega) ?_
                 intro A5 c5 w5 ho5 hb5 hg5 hat5
                 rw [List.length_map] at ho5 hat5 ⊢
                 have hB5 := (HB3.out.alloc (.cells #[.int .i64 (lg kind s)] 3)).grown hg5 (fun e => HN2.out g e.symm rfl)
                 have hB6 : Blk (w5.setCell ⟨g, 2, none⟩ (.slice A5 (K'.length + 1) c5)) g 120 #[.int .i64 kind, .slice A2 (K'.length + 1) c2, .slice A5 (K'.length + 1) c5] := hB5.set 2 _
                 have r2 : w5.cell? ⟨g, 2, none⟩ = some (.slice Am K'.length cm) := hB5.cell 2
                 have y2 := hB5.frozen 2
                 have HO5 := Lib.hid ho5; have HG5 := Lib.hid hg5; have HA5 := Lib.hid hat5; have HB6 := Lib.hid hB6
                 clear ho5 hb5 hg5 hat5 hB5 hB6))
              | fail)
            go_ret
            have hbk := bk_pushed HB.out HG2.out HA2.out HG5.out HA5.out HB6.out
            have hfar : ∀ b, (Value.slice A2 (K'.length + 1) c2).ownBlock = some b → (Value.slice A5 (K'.length + 1) c5).ownBlock ≠ some b := fun b hb e => by
              have z2 := HG2.out.size
              have z5 := HG5.out.size
              simp at z2 z5
              rcases HA2.out with h | h <;> rcases HA5.out with h' | h'
              · exact HAP.out b (h.symm.trans hb) (h'.symm.trans e)
              · rw [h] at hb; rw [h'] at e
                have k1 := (HT.out.lt b hb).2
                injection e with e
                simp at e
                omega
              · rw [h] at hb; rw [h'] at e
                have k1 := (HM2.out.lt b e).2
                injection hb with hb
                simp at hb
                omega
              · rw [h] at hb; rw [h'] at e
                injection hb with hb
                injection e with e
                simp at hb e
                omega
            refine ⟨rfl, ⟨K' ++ [s], ⟨A2, c2, A5, c5, ?_, ?_, ?_, ?_, ?_, ?_⟩, ?_⟩, HGR.out.trans hbk⟩
            · rw [List.length_append]; exact HB6.out
            · rw [List.length_append]
              refine (((HO2.out.far ⟨g, 1, none⟩ _ fun e => by have := (HO2.out.lt g e).1; omega).below ((Below.refl _ _).alloc (Nat.le_refl _) _)).grown HG5.out ?_).far ⟨g, 2, none⟩ _ fun e => by have := (HO2.out.lt g e).1; omega
              refine Classical.or_iff_not_imp_left.2 fun hn e => ?_
              obtain ⟨b, hb⟩ := Option.ne_none_iff_exists'.1 hn
              rcases HA2.out with h | h
              · exact HAP.out b (h.symm.trans hb) (e.symm.trans hb)
              · rw [h] at hb e
                have k1 := (HM2.out.lt _ e.symm).2
                simp at k1
                omega
            · rw [List.length_append, List.map_append]
              exact (own_ints.1 HO5.out).far ⟨g, 2, none⟩ _ fun e => by have := ((own_ints.1 HO5.out).lt g e).1; omega
            · rw [List.length_append]; exact hfar
            · exact List.nodup_append.2 ⟨HD.out, by simp, fun a ha b hb e => hnin.out (by rw [List.mem_singleton] at hb; rw [← hb, ← e]; exact ha)⟩
            · intro t ht
              rcases List.mem_append.1 ht with h | h
              · exact HK.out t h
              · rw [List.mem_singleton] at h; rw [h]; exact HS.out
            · intro t ht
              rcases List.mem_append.1 ht with h | h
              · rcases HKR.out t h with h | h
                · exact .inl h
                · exact .inr (by omega)
              · rw [List.mem_singleton] at h; rw [h]; exact .inr (Nat.le_refl _)

theorem BookL.new (w : World) (kind : Int) (n : Nat) : BookL (w.alloc (.cells #[.int .i64 kind, .slice none 0 0, .slice none 0 0] 120)) w.heap.size kind n [] :=
  ⟨none, 0, none, 0, Blk.new _ _ _, own_nil _ _ _, own_nil _ _ _, fun b h => by simp [Value.ownBlock] at h, List.nodup_nil, fun t ht => absurd ht (by simp)⟩
theorem bk_below {w W w' : World} {g : Nat} (hW : Below w.heap.size w W) (hg : w.heap.size ≤ g) (h : ∀ k, Held W g k → w.heap.size ≤ k) (hb : Bk W w' g) : Below w.heap.size w w' :=
  hW.trans ⟨hb.1, hb.2.1, hb.2.2.1, hb.2.2.2.1, fun k hk => (hb.2.2.2.2 k (by have := hW.size; omega) fun hh => by have := h k hh; omega).1⟩

set_option maxHeartbeats 800000 in
theorem longestS_any (kind : Int) (s : ByteArray) (w : World) (hs : s.size ≤ maxLen) :
    Calls Tryd.prog 45 #[.int .i64 kind, .string s] w fun e w' => e = .returned (.tuple #[.int .i64 (lgV kind s), .bool (lgB kind s)]) ∧ Below w.heap.size w w' := by
  cases hg : stripB kind s
  · have HB : Hid (lgB kind s = false) := by show _ = _; rw [lgB, hg]; rfl
    have HV : Hid (lgV kind s = 0) := by show _ = _; rw [lgV, HB.out]; rfl
    go_enter Tryd.func45, Tryd.ntmps45
    go_wp2_with (go_at_call 49; (with_reducible refine (goodStripS_any kind s _ hs).mono ?_); rintro e w1 ⟨rfl, rfl⟩; rw [hg])
    go_ret2
    exact ⟨by rw [HB.out, HV.out]; rfl, Below.refl _ _⟩
  · obtain ⟨h1, h2, h3, h4⟩ := stripB_of hg
    by_cases h7 : s.size ≤ 7
    · have HB : Hid (lgB kind s = true) := by show _ = _; rw [lgB, hg]; simpa using h7
      have HV : Hid (lgV kind s = lg kind s) := by show _ = _; rw [lgV, if_pos HB.out]
      have h7I : ¬ (7 : Int) < (s.size : Int) := by omega
      have HIN := Lib.hid (in3_of h4)
      clear h4
      go_enter Tryd.func45, Tryd.ntmps45
      go_wp2_with (go_at_call 49; (with_reducible refine (goodStripS_any kind s _ hs).mono ?_); rintro e w1 ⟨rfl, rfl⟩; rw [hg])
      have hM := BookL.new w kind s.size
      have hbA : Below w.heap.size w (w.alloc (.cells #[.int .i64 kind, .slice none 0 0, .slice none 0 0] 120)) := (Below.refl _ _).alloc (Nat.le_refl _) _
      have HH := Lib.hid fun k hk => (hM.held (k := k) hk).1
      have HBA := Lib.hid hbA
      refine (longS_any kind h1 h2 s.size h7 _ s _ _ [] HIN.out (Nat.lt_succ_self _) hM).mono ?_; rintro e w2 ⟨rfl, -, hg2⟩
      have hb2 := bk_below HBA.out (Nat.le_refl _) HH.out hg2
      go_wp2
      go_ret2
      exact ⟨by rw [HB.out, HV.out]; rfl, hb2⟩
    · have HB : Hid (lgB kind s = false) := by show _ = _; rw [lgB, hg]; simpa using h7
      have HV : Hid (lgV kind s = 0) := by show _ = _; rw [lgV, HB.out]; rfl
      have h7I : (7 : Int) < (s.size : Int) := by omega
      go_enter Tryd.func45, Tryd.ntmps45
      go_wp2_with (go_at_call 49; (with_reducible refine (goodStripS_any kind s _ hs).mono ?_); rintro e w1 ⟨rfl, rfl⟩; rw [hg])
      go_ret2
      exact ⟨by rw [HB.out, HV.out]; rfl, Below.refl _ _⟩

set_option maxHeartbeats 800000 in
theorem lawLongest (kind : Int) (s : ByteArray) (w : World) (hkw : (Lit.int .i64 kind).wf = true) (hs : s.size ≤ maxLen) :
    Calls Tryd.prog 7 #[.int .i64 kind, .string s] w fun e w' => e = .returned (.bool true) ∧ Below w.heap.size w w' := by
  have hs' := hs
  unfold maxLen at hs'
  by_cases hbig : (1048576 : Int) < (s.size : Int)
  · go_enter Tryd.func7, Tryd.ntmps7
    go_wp2_with fail
    go_ret
    exact ⟨rfl, Below.refl _ _⟩
  · generalize hv : lgV kind s = v
    generalize hb : lgB kind s = b
    have HV := Lib.hid hv; have HB := Lib.hid hb
    clear hv hb
    have hne : ((v : Int) != (v : Int)) = false := by simp
    have hS : ∀ w, Calls Tryd.prog 45 #[.int .i64 kind, .string s] w fun e w' => e = .returned (.tuple #[.int .i64 v, .bool b]) ∧ Below w.heap.size w w' := fun w => by
      have := longestS_any kind s w hs
      rwa [HV.out, HB.out] at this
    have hI : ∀ w, Calls Tryd.prog 46 #[.int .i64 kind, .string s] w fun e w' => e = .returned (.tuple #[.int .i64 v, .bool b]) ∧ Below w.heap.size w w' := fun w => by
      have := longestI_any kind s w hs
      rwa [HV.out, HB.out] at this
    have HS := Lib.hid hS; have HI := Lib.hid hI
    clear hS hI
    cases b
    all_goals
      go_enter Tryd.func7, Tryd.ntmps7
      go_wp2_with (first | (go_at_call 45; (with_reducible refine (HS.out _).mono ?_); rintro e w1 ⟨rfl, hb1⟩) | (go_at_call 46; (with_reducible refine (HI.out _).mono ?_); rintro e w2 ⟨rfl, hb2⟩))
      go_ret
      exact ⟨rfl, gtr hb1 hb2⟩
end Go.Proofs.YtadljglcbieifaaDoor
