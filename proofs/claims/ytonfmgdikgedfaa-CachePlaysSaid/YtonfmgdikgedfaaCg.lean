/- Caches: the document's cache: Put. -/
import Derived.Test.YtonfmgdikgedfaaCf
import Derived.Deep.RegionHeld3
import Derived.Deep.AppendLies
import Derived.Deep.DrawnRows
set_option maxRecDepth 100000
set_option maxHeartbeats 2000000
set_option linter.unusedVariables false
set_option linter.unusedSimpArgs false
namespace Go.Proofs.Ytonfmgdikgedfaa.Cm
open Go.RowKit Bs Go.Lib
attribute [local go_sem ↓] Go.wp_at_zero Go.wp_at_succ

theorem Num.room {w : World} {a : Option Addr} {n c : Nat} {L : List Int} (h : Num w (.slice a n c) L) : L.length ≤ c := by
  rcases h.2 with ⟨e, h0⟩ | ⟨g, cap, cur, e, _, hg, hn, _⟩
  · omega
  · injection e with e1 e2 e3
    subst e3
    exact hn
theorem run_appN {w : World} {v : Value} {L M : List Int} (h : Num w v L) {g o c : Nat} (hq : ∀ j (hj : j < M.length), w.cell? ⟨g, o + j, none⟩ = some (.int .i64 M[j])) (hl : L.length + M.length ≤ 100000) (ty : TypeId) :
    ∃ v' w', (Builtin.append_ #[31, 31] ty #[v, .slice (some ⟨g, o, none⟩) M.length c]).run Try.prog w = .ok v' w' ∧ Num w' v' (L ++ M) ∧ w.grownBy w' v.ownBlock ∧ (v'.ownBlock = v.ownBlock ∨ v'.ownBlock = some w.heap.size) := by
  obtain ⟨i0, hi, hz0, hz1, hz2⟩ := info_parts info_intC
  obtain ⟨v', w', h1, h2, h3, _, h5⟩ := run_append_own_at (P := Try.prog) w 0 31 ty 3 i0 _ 1 8 Try.underlying31 hi hz0 hz1 hz2 rfl (by decide) v L.length _ h ⟨g, o, none⟩ M.length c (M.map (Value.int .i64)) (by simp)
    (fun j u hj => by
      rw [List.getElem?_map] at hj
      rcases Nat.lt_or_ge j M.length with hlt | hge
      · rw [List.getElem?_eq_getElem hlt] at hj
        obtain rfl : Value.int .i64 M[j] = u := by simpa using hj
        rw [Addr.add_lit]
        exact hq j hlt
      · rw [List.getElem?_eq_none hge] at hj
        cases hj) (by
      intro u hu
      obtain ⟨x, _, rfl⟩ := List.mem_map.1 hu
      rfl) (by unfold maxLen; omega) (by omega) (Nat.zero_le _)
  refine ⟨v', w', h1, ?_, h3, h5⟩
  unfold Num
  rw [List.length_append, List.map_append]
  exact h2

/-- A row without one of its elements, copied. -/
theorem run_cut {w : World} {g n c : Nat} {L : List Int} (h : Num w (.slice (some ⟨g, 0, none⟩) n c) L) (hn : L.length ≤ 70) {k : Nat} (hk : k < L.length) (ty1 ty2 : TypeId) (c1 c2 p2 : Nat) (hp2 : p2 = k + 1 ∨ L.length ≤ k + 1) :
    ∃ v1 w2 v2 w3, (Builtin.append_ #[31, 31] ty1 #[.slice (some ⟨w.heap.size, 0, none⟩) 0 0, .slice (some ⟨g, 0, none⟩) k c1]).run Try.prog (w.alloc (.cells #[] 3)) = .ok v1 w2 ∧ Below w.heap.size w w2 ∧
      (Builtin.append_ #[31, 31] ty2 #[v1, .slice (some ⟨g, p2, none⟩) (L.length - (k + 1)) c2]).run Try.prog w2 = .ok v2 w3 ∧ Below w.heap.size w w3 ∧ Num w3 v2 (L.eraseIdx k) ∧ ∀ q, v2.ownBlock = some q → w.heap.size ≤ q := by
  have hnew := heap_alloc_new w (.cells #[] 3)
  have ha : Below w.heap.size w (w.alloc (.cells #[] 3)) := (Below.refl _ _).alloc (Nat.le_refl _) _
  have h0 : Num (w.alloc (.cells #[] 3)) (.slice (some ⟨w.heap.size, 0, none⟩) 0 0) [] := ⟨rfl, .inr ⟨_, 0, _, rfl, Nat.zero_le _, hnew, Nat.le_refl _, by unfold maxLen; omega, rfl, rfl⟩⟩
  have hcell : ∀ {w' : World}, Below w.heap.size w w' → ∀ j (hj : j < L.length), w'.cell? ⟨g, j, none⟩ = some (.int .i64 L[j]) := fun {w'} hb j hj => by
    obtain ⟨g', e, m⟩ := h.elem hj
    injection e with e
    injection e with e
    subst e
    exact below_cell' hb m
  obtain ⟨v1, w2, r1, n1, g1, o1⟩ := run_appN (M := L.take k) h0 (g := g) (o := 0) (c := c1) (fun j hj => by
    have hj' : j < k := by rw [List.length_take] at hj; omega
    rw [Nat.zero_add, List.getElem_take]
    exact hcell ha j (by omega)) (by rw [List.length_take]; simp; omega) ty1
  rw [List.length_take, Nat.min_eq_left (by omega)] at r1
  have b2 : Below w.heap.size w w2 := ha.grown g1 (by simp) fun q hq => by
    have : w.heap.size = q := by simpa [Value.ownBlock] using hq
    omega
  have hv1 : ∀ q, v1.ownBlock = some q → w.heap.size ≤ q := fun q hq => by
    rcases o1 with o1 | o1
    · rw [o1] at hq
      have : w.heap.size = q := by simpa [Value.ownBlock] using hq
      omega
    · rw [o1, World.size_alloc] at hq
      have := Option.some.inj hq
      omega
  obtain ⟨v2, w3, r2, n2, g2, o2⟩ := run_appN (M := L.drop (k + 1)) n1 (g := g) (o := p2) (c := c2) (fun j hj => by
    rw [List.length_drop] at hj
    obtain rfl : p2 = k + 1 := hp2.elim id fun h => by omega
    rw [List.getElem_drop]
    exact hcell b2 (k + 1 + j) (by omega)) (by rw [List.length_drop]; simp; omega) ty2
  rw [List.length_drop] at r2
  refine ⟨v1, w2, v2, w3, r1, b2, r2, b2.grown g2 b2.size fun q hq => hv1 q hq, ?_, fun q hq => ?_⟩
  · rw [List.eraseIdx_eq_take_drop_succ]
    simpa using n2
  · rcases o2 with o2 | o2
    · exact hv1 q (o2 ▸ hq)
    · rw [o2] at hq
      have := Option.some.inj hq
      have := b2.size
      omega

theorem RNext.trans {T : Nat → Prop} {w w1 w2 : World} {bx : Nat} {x x' : RM} (h : RNext T w w1 bx x) (h' : ∀ T', RefAt T' w1 bx x → RNext T' w1 w2 bx x') : RNext T w w2 bx x' := by
  obtain ⟨T', h1, h2, h3⟩ := h
  obtain ⟨T'', h4, h5, h6⟩ := h' T' h1
  exact ⟨T'', h4, h2.trans h5 fun k hk hs => (h3 k hs).elim id fun h => by omega, fun k hk => (h6 k hk).elim (h3 k) fun h => .inr (Nat.le_trans h2.size h)⟩

theorem RefAt.turn2 {T : Nat → Prop} {w w3 w6 : World} {bx : Nat} {x : RM} (h : RefAt T w bx x) {K V : Value} {L : List KV} (hl : L.length ≤ 65) (hk : Num w3 K (L.map (·.1))) (kb : ∀ q, K.ownBlock = some q → w.heap.size ≤ q) (b3 : Below w.heap.size w w3)
    (hv : Num w6 V (L.map (·.2))) (vb : ∀ q, V.ownBlock = some q → w3.heap.size ≤ q) (b6 : Below w3.heap.size (w3.setCell ⟨bx, 1, none⟩ K) w6) :
    RNext T w (w6.setCell ⟨bx, 2, none⟩ V) bx { x with L := L } := by
  have hlive := h.live bx h.own
  have hsz := b3.size
  have hsz6 : w3.heap.size ≤ w6.heap.size := by have := b6.size; simpa using this
  obtain ⟨kv, vv, h1, h2, _⟩ := h.vs
  have hne1 : ∀ q, K.ownBlock = some q → q ≠ bx := fun q hq e => by have := kb q hq; omega
  have hne2 : ∀ q, V.ownBlock = some q → q ≠ bx := fun q hq e => by have := vb q hq; omega
  have c6 : ∀ (j : Nat) u, j ≠ 1 → w.cell? ⟨bx, j, none⟩ = some u → w6.cell? ⟨bx, j, none⟩ = some u := fun j u hj hu => below_cell' (b6.mono (by simp)) ((setCell_off (by omega)).trans (below_cell' b3 hu))
  refine ⟨fun k => T k ∨ K.ownBlock = some k ∨ V.ownBlock = some k, ⟨⟨K, V, ?_, ?_, ?_, ?_, fun k hk => ⟨.inr (.inl hk), hne1 k hk⟩, fun k hk => ⟨.inr (.inr hk), hne2 k hk⟩⟩, ?_, ?_, ?_, fun j => ?_, .inl h.own, fun k hk' => ?_, h.small, hl⟩, ?_, fun k hk' => ?_⟩
  · exact (setCell_off (by omega)).trans (below_cell' (b6.mono (by simp)) (setCell_same (below_cell' b3 h1)))
  · exact setCell_same (c6 2 _ (by omega) h2)
  · exact hk.same fun q hq => (heap_setCell_other _ _ _ _ (hne1 q hq)).trans ((b6.block q (hk.lt hq)).trans (heap_setCell_other _ _ _ _ (hne1 q hq)))
  · exact hv.same fun q hq => heap_setCell_other _ _ _ _ (hne2 q hq)
  · exact (setCell_off (by omega)).trans (c6 0 _ (by omega) h.cap)
  · exact (setCell_off (by omega)).trans (c6 3 _ (by omega) h.ht)
  · exact (setCell_off (by omega)).trans (c6 4 _ (by omega) h.ms)
  · rw [World.frozen?_setCell]
    have e1 : w6.frozen? ⟨bx, j, none⟩ = (w3.setCell ⟨bx, 1, none⟩ K).frozen? ⟨bx, j, none⟩ := World.frozen?_of_block (w := w3.setCell ⟨bx, 1, none⟩ K) (a := ⟨bx, j, none⟩) (b6.block bx (by show bx < _; omega))
    rw [e1, World.frozen?_setCell]
    exact (World.frozen?_of_block (w := w) (a := ⟨bx, j, none⟩) (b3.block bx hlive)).trans (h.thaw j)
  · rcases hk' with hk' | hk' | hk'
    · have := h.live k hk'; simp; omega
    · have := hk.lt hk'; simp; omega
    · have := hv.lt hk'; simpa using this
  · have c1 : Chg T w (w3.setCell ⟨bx, 1, none⟩ K) := (Chg.of_below b3).setCell (a := ⟨bx, 1, none⟩) (.inr h.own) _
    have c2 : Chg T w w6 := c1.trans (Chg.of_below (F := T) (b6.mono (by simp))) fun k _ hk => hk
    exact c2.setCell (a := ⟨bx, 2, none⟩) (.inr h.own) _
  · rcases hk' with hk' | hk' | hk'
    · exact .inl hk'
    · exact .inr (kb k hk')
    · exact .inr (by have := vb k hk'; omega)

/-- An append whose run is known, at a step of a region that draws its order. -/
theorem step_append_run {P : Program} {w : World} {ops : Array Oper} {o : Oper} {a : Act} {K : Act → World → Prop} {Q : Exit → Act → World → Prop} {E : Prop} (hgd : o.guard = none) (s x : Operand) (t tn : TypeId)
    (ho : o.op = .call { callee := .builtin .append, args := #[s, x], argTypes := #[t, tn] }) (vs vx : Value) (hs : a.eval s = vs) (hx : a.eval x = vx)
    (v' : Value) (w' : World) (hr : (Builtin.append_ #[t, tn] o.type #[vs, vx]).run P w = .ok v' w') (h : K (a.put o.dst v') w') : if Region.wanted o (yielded ops a.tmps) = true then Oper.wp P o a w K Q else E := by
  have hw : Region.wanted o (yielded ops a.tmps) = true := by simp [Region.wanted, hgd]
  rw [if_pos hw]
  exact wp_append_run w s x t tn ho vs vx hs hx v' w' hr h

theorem wrap_small {l : Nat} (h : l ≤ 100) : IntKind.i64.wrap ((l : Int) + 1) = (l : Int) + 1 := by
  rw [IntKind.wrap_i64]
  omega

theorem map_erase (f : KV → Int) (t : List KV) (l : Nat) : (t.map f).eraseIdx l = (t.eraseIdx l).map f := by
  rw [List.eraseIdx_eq_take_drop_succ, List.eraseIdx_eq_take_drop_succ, List.map_append, List.map_take, List.map_drop]

set_option maxHeartbeats 16000000 in
theorem RPut {T : Nat → Prop} {w : World} {bx : Nat} {x : RM} (h : RefAt T w bx x) (hnd : (x.L.map (·.1)).Nodup) (hl : x.L.length ≤ 64) (e : KV) :
    Calls Try.prog 49 #[.pointer (some ⟨bx, 0, none⟩), .int .i64 e.1, .int .i64 e.2] w fun r w' => r = .returned (.tuple #[.int .i64 (dropV (x.drop e)).1.1, .int .i64 (dropV (x.drop e)).1.2, .bool (dropV (x.drop e)).2]) ∧ RNext T w w' bx (x.put e) := by
  have g0 := h.cap
  by_cases h0 : x.n = 0
  · have e1 : x.put e = x := by unfold RM.put; rw [if_pos h0]
    have e2 : x.drop e = none := by unfold RM.drop; rw [if_pos h0]
    have HR : Hid (RNext T w w bx x) := Lib.hid ⟨T, h, Chg.refl _ _, fun k hk => .inl hk⟩
    rw [e1, e2]
    rw [h0] at g0
    clear h e1 e2 h0
    go_enter Try.func49, Try.ntmps49
    go_wp2
    go_ret3
    exact ⟨rfl, HR.out⟩
  · have hn0 : ¬ ((x.n : Int) = 0) := by omega
    have hn1 : ((x.n : Int) == 0) = false := by simp; omega
    have HP := Lib.hid (RPlace h e.1)
    have HO := off_place hnd e.1
    have HT := Lib.hid (RTake h (placeV x.L e.1) e.1 e.2 (by have := off_len (placeV x.L e.1) x.L; omega))
    rw [HO] at HT
    have HV : Hid (placeV x.L e.1 = if place x.L e.1 < x.L.length then (place x.L e.1 : Int) else -1) := Lib.hid rfl
    by_cases hp : place x.L e.1 < x.L.length
    · have hf : x.full e = false := by
        unfold RM.full
        rw [place_ent, List.getElem?_eq_getElem hp]
        rfl
      have e1 : x.put e = { x with L := x.t e } := by unfold RM.put; rw [if_neg h0, hf]; rfl
      have e2 : x.drop e = none := by unfold RM.drop; rw [if_neg h0, hf]; rfl
      rw [if_pos hp] at HV
      rw [HV.out] at HP HT
      rw [e1, e2]
      have HT2 : Hid (Calls Try.prog 72 #[.pointer (some ⟨bx, 0, none⟩), .int .i64 (place x.L e.1), .int .i64 e.1, .int .i64 e.2] w fun r w' => r = .returned (.tuple #[]) ∧ RNext T w w' bx { x with L := x.t e }) := HT
      have hp0 : (0 : Int) ≤ (place x.L e.1 : Int) := by omega
      clear HV HT HO e1 e2 hf h hp hnd
      generalize place x.L e.1 = p at *
      go_enter Try.func49, Try.ntmps49
      go_wp2_with fail
      refine HP.out.mono ?_
      rintro r w1 ⟨rfl, rfl⟩
      go_wp2_with fail
      refine HT2.out.mono ?_
      rintro r w2 ⟨rfl, hr⟩
      have HR := Lib.hid hr
      clear hr HT2 HP
      go_wp2
      go_ret3
      exact ⟨rfl, HR.out⟩
    · rw [if_neg hp] at HV
      rw [HV.out] at HP HT
      have hn : (ent? x.L e.1).isNone = true := by rw [place_ent, List.getElem?_eq_none (by omega)]; rfl
      have hf : x.full e = decide (roomAt x.n (setNo (nSets x.n) e.1) < ((x.t e).filter (x.same e.1)).length) := by
        unfold RM.full
        rw [hn]
        rfl
      have HT2 : Hid (Calls Try.prog 72 #[.pointer (some ⟨bx, 0, none⟩), .int .i64 (-1), .int .i64 e.1, .int .i64 e.2] w fun r w' => r = .returned (.tuple #[]) ∧ RNext T w w' bx { x with L := x.t e }) := HT
      have ht0 : 0 < (x.t e).length := by unfold RM.t; simp
      have ht1 : (x.t e).length ≤ 65 := by unfold RM.t; have := wo_le x.L e.1; rw [List.length_cons]; omega
      have HPF : Hid (x.full e = false → x.put e = { x with L := x.t e } ∧ x.drop e = none) := Lib.hid fun hf => ⟨by unfold RM.put; rw [if_neg h0, hf]; rfl, by unfold RM.drop; rw [if_neg h0, hf]; rfl⟩
      have HPT : Hid (x.full e = true → x.put e = { x with L := (x.t e).eraseIdx (lastIx (x.same e.1) (x.t e)) } ∧ x.drop e = (x.t e)[lastIx (x.same e.1) (x.t e)]?) := Lib.hid fun hf => ⟨by unfold RM.put; rw [if_neg h0, if_pos hf]; rfl, by unfold RM.drop; rw [if_neg h0, if_pos hf]; rfl⟩
      have HPU := Lib.hid (rfl : x.put e = x.put e)
      have HDU := Lib.hid (rfl : x.drop e = x.drop e)
      generalize hput : x.put e = px at HPF HPT HPU ⊢
      generalize hdrop : x.drop e = dx at HPF HPT HDU ⊢
      have hm : setNo (nSets x.n) e.1 ≤ 32 := by
        have h1 : 0 < nSets x.n ∧ nSets x.n ≤ 32 := by have := h.small; unfold nSets; omega
        have := setNo_lt h1.1 e.1
        omega
      have HSM : Hid (∀ y : KV, x.same e.1 y = (setNo (nSets x.n) y.1 == setNo (nSets x.n) e.1)) := Lib.hid fun y => rfl
      have HF := Lib.hid hf
      have hsm := h.small
      have hx0 : 0 < x.n := by omega
      clear HV HT HO h hp hnd hn hf hput hdrop HPU HDU hl h0
      generalize x.full e = fl at HF HPF HPT
      generalize x.t e = t at *
      generalize x.same e.1 = sm at *
      go_enter Try.func49, Try.ntmps49
      go_wp2_with fail
      refine HP.out.mono ?_
      rintro r w1 ⟨rfl, rfl⟩
      go_wp2_with fail
      refine HT2.out.mono ?_
      rintro r w2 ⟨rfl, hr⟩
      have HR := Lib.hid hr
      obtain ⟨T', h2, _, _⟩ := hr
      have H2 := Lib.hid h2
      obtain ⟨kv, vv, k1, k2, hk, hv, _, h6⟩ := h2.vs
      have hc : w2.cell? ⟨bx, 0, none⟩ = some (.int .i64 x.n) := h2.cap
      have hk' : Num w2 kv (t.map (·.1)) := hk
      have hv' : Num w2 vv (t.map (·.2)) := hv
      obtain ⟨ka, kc, rfl⟩ := hk'.slice
      obtain ⟨va, vc, rfl⟩ := hv'.slice
      rw [List.length_map] at k1 k2 hk' hv'
      obtain ⟨g, rfl, _⟩ := hk'.elem (j := 0) (by simpa using ht0)
      obtain ⟨g', rfl, _⟩ := hv'.elem (j := 0) (by simpa using ht0)
      have HK := Lib.hid hk'
      have HVV := Lib.hid (And.intro hv' (h6 g' rfl).2)
      have HS := Lib.hid (fun key => RSet hc hx0 hsm key)
      have HRM := Lib.hid (RRoom hc hsm (setNo (nSets x.n) e.1) hm)
      have HK2 := Lib.hid k2
      have HZ := Lib.hid (And.intro (h2.thaw 1) (h2.thaw 2))
      have HLV := Lib.hid (h2.live _ h2.own)
      clear HT2 HP hk hv hk' hv' h6 hc h2 g0 k2
      go_wp2_with fail
      go_loopg [10, 11, 12] t.length (fun gk uc ul ui wr => ∃ i c l : Nat, Hid (i + gk = t.length ∧ c = ((t.take i).filter sm).length ∧ l = lastIx sm (t.take i)) ∧ uc = .int .i64 c ∧ ul = .int .i64 l ∧ ui = .int .i64 i ∧ c ≤ i ∧ w2 = wr)
      case atStart => exact ⟨0, 0, 0, Lib.hid ⟨Nat.zero_add _, rfl, rfl⟩, by go_num, by go_num, by go_num, Nat.le_refl _, rfl⟩
      case round =>
        obtain ⟨i, c, l, hi, rfl, rfl, rfl, hci, rfl⟩ := hrel
        have hit : i ≤ t.length := by have := hi.out.1; omega
        by_cases hlt : i < t.length
        · have hlt' : (i : Int) < (t.length : Int) := by omega
          have hi0 : (0 : Int) ≤ (i : Int) := by omega
          obtain ⟨g2, e2, m0⟩ := HK.out.elem (j := i) (by simpa using hlt)
          injection e2 with e2
          injection e2 with e2
          subst e2
          rw [List.getElem_map] at m0
          have HC := Lib.hid (HS.out t[i].1)
          have HD := Lib.hid (HS.out e.1)
          have hb := HSM.out t[i]
          have H1 : Hid (((t.take (i + 1)).filter sm).length = if sm t[i] then c + 1 else c) := Lib.hid (by
            rw [List.take_succ_eq_append_getElem hlt, List.filter_append, List.length_append, ← hi.out.2.1]
            rw [List.filter_cons, List.filter_nil]
            cases sm t[i] <;> rfl)
          have H3 : Hid (lastIx sm (t.take (i + 1)) = if sm t[i] then i else l) := Lib.hid (by
            rw [List.take_succ_eq_append_getElem hlt, lastIx_snoc, List.length_take, Nat.min_eq_left hit, ← hi.out.2.2])
          generalize t[i] = y at *
          by_cases hs : setNo (nSets x.n) y.1 = setNo (nSets x.n) e.1
          · rw [hs, beq_self_eq_true] at hb
            rw [hb] at H1 H3
            rw [hs] at HC
            clear hb hs
            generalize setNo (nSets x.n) e.1 = kn at *
            go_wp2_with fail
            refine HC.out.mono ?_
            rintro r w3 ⟨rfl, rfl⟩
            go_wp2_with fail
            refine HD.out.mono ?_
            rintro r w3 ⟨rfl, rfl⟩
            go_wp2
            go_roundg (t.length - (i + 1))
            case measure => have := hi.out.1; omega
            case rel => exact ⟨i + 1, c + 1, i, Lib.hid ⟨by have := hi.out.1; omega, H1.out.symm, H3.out.symm⟩, by go_num, by go_num, by go_num, by omega, rfl⟩
          · have hs2 : (((setNo (nSets x.n) y.1 : Nat) : Int) == ((setNo (nSets x.n) e.1 : Nat) : Int)) = false := by simp; omega
            rw [beq_eq_false_iff_ne.2 hs] at hb
            rw [hb] at H1 H3
            clear hb hs
            generalize setNo (nSets x.n) e.1 = kn at *
            generalize setNo (nSets x.n) y.1 = kq at *
            go_wp2_with fail
            refine HC.out.mono ?_
            rintro r w3 ⟨rfl, rfl⟩
            go_wp2_with fail
            refine HD.out.mono ?_
            rintro r w3 ⟨rfl, rfl⟩
            go_wp2
            go_roundg (t.length - (i + 1))
            case measure => have := hi.out.1; omega
            case rel => exact ⟨i + 1, c, l, Lib.hid ⟨by have := hi.out.1; omega, H1.out.symm, H3.out.symm⟩, by go_num, by go_num, by go_num, by omega, rfl⟩
        · have hie : i = t.length := by omega
          have hc2 : c = (t.filter sm).length := by have := hi.out.2.1; rwa [hie, List.take_length] at this
          have hl2 : l = lastIx sm t := by have := hi.out.2.2; rwa [hie, List.take_length] at this
          rw [← hc2] at HF
          rw [← hl2] at HPT
          have HD := Lib.hid (HS.out e.1)
          have hrm : roomAt x.n (setNo (nSets x.n) e.1) ≤ 2 := by unfold roomAt; split <;> omega
          by_cases hrc : roomAt x.n (setNo (nSets x.n) e.1) < c
          · rw [decide_eq_true hrc] at HF
            have hany : t.any sm = true := by
              rw [List.any_eq_true]
              have : 0 < (t.filter sm).length := by omega
              obtain ⟨y, hy⟩ := List.exists_mem_of_length_pos this
              obtain ⟨h1, h2⟩ := List.mem_filter.1 hy
              exact ⟨y, h1, h2⟩
            have hlt : l < t.length := by
              obtain ⟨P, y, B, h1, h2, _⟩ := lastIx_split sm t hany
              rw [hl2, ← h2, h1]
              simp
            obtain ⟨e1, e2⟩ := HPT.out HF.out
            rw [List.getElem?_eq_getElem hlt] at e2
            have hdv : dropV dx = (t[l], true) := by rw [e2]; rfl
            have HDV := Lib.hid hdv
            obtain ⟨gk2, ek, m0⟩ := HK.out.elem (j := l) (by simpa using hlt)
            injection ek with ek
            injection ek with ek
            subst ek
            obtain ⟨gv2, ev, m1⟩ := HVV.out.1.elem (j := l) (by simpa using hlt)
            injection ev with ev
            injection ev with ev
            subst ev
            rw [List.getElem_map] at m0 m1
            have hkc0 := HK.out.room
            have hvc0 := HVV.out.1.room
            rw [List.length_map] at hkc0 hvc0
            obtain ⟨pk, hpk, hik⟩ : ∃ p, (p = l + 1 ∨ t.length ≤ l + 1) ∧ (if kc = l + 1 then some (⟨g, 0, none⟩ : Addr) else some ⟨g, l + 1, none⟩) = some ⟨g, p, none⟩ := by
              by_cases h : kc = l + 1
              · exact ⟨0, .inr (by omega), by rw [if_pos h]⟩
              · exact ⟨l + 1, .inl rfl, by rw [if_neg h]⟩
            obtain ⟨pv, hpv, hiv⟩ : ∃ p, (p = l + 1 ∨ t.length ≤ l + 1) ∧ (if vc = l + 1 then some (⟨g', 0, none⟩ : Addr) else some ⟨g', l + 1, none⟩) = some ⟨g', p, none⟩ := by
              by_cases h : vc = l + 1
              · exact ⟨0, .inr (by omega), by rw [if_pos h]⟩
              · exact ⟨l + 1, .inl rfl, by rw [if_neg h]⟩
            have hwr : IntKind.i64.wrap ((l : Int) + 1) = (l : Int) + 1 := wrap_small (by omega)
            have htn : ((l : Int) + 1).toNat = l + 1 := by omega
            have hl01 : (0 : Int) ≤ (l : Int) + 1 := by omega
            have hkd : Num w2.drew (.slice (some ⟨g, 0, none⟩) t.length kc) (t.map (·.1)) := HK.out.below (Below.refl _ _).drew
            obtain ⟨v1, w3, v2, w4, r1, b3', r2, b4', n4, o4'⟩ := run_cut hkd (by simpa using (by omega : t.length ≤ 70)) (k := l) (by simpa using hlt) 31 31 kc (kc - (l + 1)) pk (by simpa using hpk)
            have b3 : Below w2.heap.size w2 w3 := (Below.refl w2.heap.size w2).drew.trans b3'
            have b4 : Below w2.heap.size w2 w4 := (Below.refl w2.heap.size w2).drew.trans b4'
            have o4 : ∀ q, v2.ownBlock = some q → w2.heap.size ≤ q := o4'
            clear b3' b4' o4' hkd
            obtain ⟨a4, c4, rfl⟩ := n4.slice
            generalize (List.eraseIdx (List.map (fun y : KV => y.1) t) l).length = nk at *
            have hv5 : Num (w4.setCell ⟨bx, 1, none⟩ (.slice a4 nk c4)).drew (.slice (some ⟨g', 0, none⟩) t.length vc) (t.map (·.2)) := HVV.out.1.same fun q hq => by
              obtain rfl : g' = q := by simpa [Value.ownBlock] using hq
              exact (heap_setCell_other _ _ _ _ HVV.out.2).trans (b4.block _ (HVV.out.1.lt hq))
            obtain ⟨v3, w5, v4, w6, r3, b5', r4, b6', n6, o6⟩ := run_cut hv5 (by simpa using (by omega : t.length ≤ 70)) (k := l) (by simpa using hlt) 31 31 vc (vc - (l + 1)) pv (by simpa using hpv)
            obtain ⟨a6, c6, rfl⟩ := n6.slice
            have hsz : (w4.setCell ⟨bx, 1, none⟩ (.slice a4 nk c4)).heap.size = w4.heap.size := World.size_setCell _ _ _
            rw [List.length_map] at r2 r4
            have b5d : Below w4.heap.size (w4.setCell ⟨bx, 1, none⟩ (.slice a4 nk c4)) w5 := by
              have h1 := (Below.refl (w4.setCell ⟨bx, 1, none⟩ (.slice a4 nk c4)).heap.size (w4.setCell ⟨bx, 1, none⟩ (.slice a4 nk c4))).drew.trans b5'
              rwa [hsz] at h1
            have b6d : Below w4.heap.size (w4.setCell ⟨bx, 1, none⟩ (.slice a4 nk c4)) w6 := by
              have h1 := (Below.refl (w4.setCell ⟨bx, 1, none⟩ (.slice a4 nk c4)).heap.size (w4.setCell ⟨bx, 1, none⟩ (.slice a4 nk c4))).drew.trans b6'
              rwa [hsz] at h1
            have hszd : (w4.setCell ⟨bx, 1, none⟩ (.slice a4 nk c4)).drew.heap.size = w4.heap.size := hsz
            rw [hszd] at r3 o6
            have b5 := b5d
            have b6 := b6d
            clear b5' b6' b5d b6d hszd
            have HFIN : Hid (RNext T w (w6.setCell ⟨bx, 2, none⟩ (.slice a6 (List.eraseIdx (t.map (·.2)) l).length c6)) bx px) := Lib.hid (by
              rw [e1]
              refine HR.out.trans fun T2 h => ?_
              have hlen : (t.eraseIdx l).length ≤ 65 := by rw [List.length_eraseIdx]; split <;> omega
              exact h.turn2 (L := t.eraseIdx l) hlen (by rw [← map_erase]; exact n4) o4 b4 (by rw [← map_erase]; exact n6) o6 b6)
            have hlive := HLV.out
            have q1 := below_cell' b3 k1
            have q2 := below_cell' b4 k1
            have q3 := below_cell' b4 HK2.out
            have q4 : (w4.setCell ⟨bx, 1, none⟩ (.slice a4 nk c4)).cell? ⟨bx, 2, none⟩ = some (.slice (some ⟨g', 0, none⟩) t.length vc) := (setCell_off (by omega)).trans q3
            have q5 := below_cell' (by rw [hsz]; exact b5) q4
            have q6 := below_cell' (by rw [hsz]; exact b6) q4
            have z4 : w4.frozen? ⟨bx, 1, none⟩ = false := (World.frozen?_of_block (w := w2) (a := ⟨bx, 1, none⟩) (b4.block bx hlive)).trans HZ.out.1
            have z6 : w6.frozen? ⟨bx, 2, none⟩ = false := by
              have h1 : (w4.setCell ⟨bx, 1, none⟩ (.slice a4 nk c4)).frozen? ⟨bx, 2, none⟩ = false := by
                rw [World.frozen?_setCell]
                exact (World.frozen?_of_block (w := w2) (a := ⟨bx, 2, none⟩) (b4.block bx hlive)).trans HZ.out.2
              exact (World.frozen?_of_block (w := w4.setCell ⟨bx, 1, none⟩ (.slice a4 nk c4)) (a := ⟨bx, 2, none⟩) (b6.block bx (by have := b4.size; omega))).trans h1
            have hkc := HK.out.room
            have hvc := HVV.out.1.room
            rw [List.length_map] at hkc hvc
            have hl0 : (0 : Int) ≤ (l : Int) := by omega
            have hl1 : (l : Int) < (t.length : Int) := by omega
            have hl64 : (l : Int) ≤ 65 := by omega
            have hkl : (l : Int) ≤ (kc : Int) := by omega
            have hvl : (l : Int) ≤ (vc : Int) := by omega
            have hk1 : (l : Int) + 1 ≤ (t.length : Int) := by omega
            have hrc2 : ¬ ((c : Int) ≤ (roomAt x.n (setNo (nSets x.n) e.1) : Nat)) := by omega
            have k2 := HK2.out
            have p1 := below_cell' ((Below.refl _ _).alloc (Nat.le_refl _) (.cells #[] 3)) k1
            have hl4 : bx < w4.heap.size := by have := b4.size; omega
            clear hpk hpv hkc0 hvc0 hsz b3 b4 b5 b6 n4 n6 o4 o6 hv5 e1 e2 hdv hany hc2 hl2 hie hi hrm
            generalize (List.eraseIdx (t.map (·.2)) l).length = nv at *
            generalize t[l] = y at *
            generalize roomAt x.n (setNo (nSets x.n) e.1) = rm at *
            generalize setNo (nSets x.n) e.1 = kn at *
            go_wp2_with fail
            refine HD.out.mono ?_
            rintro r w7 ⟨rfl, rfl⟩
            go_wp2_with fail
            refine HRM.out.mono ?_
            rintro r w7 ⟨rfl, rfl⟩
            go_wp2_with fail
            go_cut [] from 15 to 113 (fun wx => Hid (wx = w4.setCell ⟨bx, 1, none⟩ (.slice a4 nk c4)))
            case first =>
              clear HFIN HDV HD HRM q3 q4 q5 q6 z6 r3 r4 hiv hvl hvc HK HVV HK2 HLV HZ HR
              go_region_law (first | (refine step_append_run rfl _ _ _ _ rfl _ _ rfl rfl _ _ r1 ?_) | (refine step_append_run rfl _ _ _ _ rfl _ _ rfl rfl _ _ r2 ?_))
              all_goals
                go_wp2_with fail
                go_meet
                exact Lib.hid rfl
            case rest =>
              obtain rfl := hcut.out
              clear hcut
              go_wp2_with fail
              go_cut [] from 15 to 113 (fun wx => Hid (wx = w6.setCell ⟨bx, 2, none⟩ (.slice a6 nv c6)))
              case first =>
                clear HFIN HDV HD HRM q1 q2 q3 z4 r1 r2 hik hkl hkc k1 p1 HK HVV HK2 HLV HZ HR
                go_region_law (first | (refine step_append_run rfl _ _ _ _ rfl _ _ rfl rfl _ _ r3 ?_) | (refine step_append_run rfl _ _ _ _ rfl _ _ rfl rfl _ _ r4 ?_))
                all_goals
                  go_wp2_with fail
                  go_meet
                  exact Lib.hid rfl
              case rest =>
                obtain rfl := hcut.out
                clear hcut
                go_wp2
                go_ret3
                exact ⟨by rw [HDV.out]; rfl, HFIN.out⟩
          · rw [decide_eq_false hrc] at HF
            obtain ⟨e1, e2⟩ := HPF.out HF.out
            have HFIN : Hid (RNext T w w2 bx px) := Lib.hid (by rw [e1]; exact HR.out)
            have HDV : Hid (dropV dx = ((0, 0), false)) := Lib.hid (by rw [e2]; rfl)
            have hrc2 : (c : Int) ≤ (roomAt x.n (setNo (nSets x.n) e.1) : Nat) := by omega
            clear e1 e2 hc2 hl2 hie hi hrm hrc
            generalize roomAt x.n (setNo (nSets x.n) e.1) = rm at *
            generalize setNo (nSets x.n) e.1 = kn at *
            go_wp2_with fail
            refine HD.out.mono ?_
            rintro r w7 ⟨rfl, rfl⟩
            go_wp2_with fail
            refine HRM.out.mono ?_
            rintro r w7 ⟨rfl, rfl⟩
            go_wp2
            go_ret3
            exact ⟨by rw [HDV.out]; rfl, HFIN.out⟩
end Go.Proofs.Ytonfmgdikgedfaa.Cm
