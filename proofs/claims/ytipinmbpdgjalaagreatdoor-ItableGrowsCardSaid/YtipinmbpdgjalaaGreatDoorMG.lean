/- Two worlds beside each other; what arrives later changes nothing. -/
import Derived.Test.YtipinmbpdgjalaaGreatDoorMX
import Derived.Test.YtipinmbpdgjalaaGreatDoorME
set_option maxRecDepth 100000
set_option maxHeartbeats 1000000
set_option linter.unusedVariables false
set_option linter.unusedSimpArgs false
namespace Go.Proofs.YtipinmbpdgjalaaGreatDoor.Hi
open Go.RowKit Bs

theorem defM_cases (m : List EntM) (c : ClsM) : (defE m c = 0 ∧ defM m c = m ++ [entOf m c] ∧ defN m c = m.length) ∨ (defE m c ≠ 0 ∧ defM m c = m ∧ defN m c = 0) := by
  by_cases h : defE m c = 0
  · exact .inl ⟨h, by unfold defM; rw [if_pos h], by unfold defN; rw [if_pos h]⟩
  · exact .inr ⟨h, by unfold defM; rw [if_neg h], by unfold defN; rw [if_neg h]⟩

section
variable {m : List EntM} {e : EntM}
theorem entAt_app {i : Nat} (h : i < m.length) : entAt (m ++ [e]) i = entAt m i := by
  rw [entAt_nat h, entAt_nat (by simp; omega), List.getElem_append_left h]
theorem chainL_app (hw : WFm m) : ∀ (k i : Nat), i < m.length → chainL (m ++ [e]) k i = chainL m k i
  | 0, i, h => rfl
  | k + 1, i, h => by
    rw [chainL_step h, chainL_step (m := m ++ [e]) (by simp; omega)]
    simp only [List.getElem_append_left h]
    by_cases hn : m[i].above < 0
    · rw [if_pos hn, if_pos hn]
    · rw [if_neg hn, if_neg hn]
      have ha := hw.above i h
      rw [show m[i].above = ((m[i].above.toNat : Nat) : Int) by omega, chainL_app hw k _ (by omega)]
theorem upM_app (hw : WFm m) (fd : Int) (hfd : 0 ≤ fd) : ∀ (k i : Nat), i < m.length → upM (m ++ [e]) fd k i = upM m fd k i
  | 0, i, h => rfl
  | k + 1, i, h => by
    show (match entAt (m ++ [e]) (i : Int) with | some x => if fd < x.depth then upM (m ++ [e]) fd k x.above else (i : Int) | none => (i : Int)) = (match entAt m (i : Int) with | some x => if fd < x.depth then upM m fd k x.above else (i : Int) | none => (i : Int))
    rw [entAt_app h, entAt_nat h]
    simp only
    by_cases hd : fd < m[i].depth
    · rw [if_pos hd, if_pos hd]
      have h0 : 0 < i := by
        have := (hw.depth i h).2.2.2
        by_cases e0 : i = 0
        · have := this e0; omega
        · omega
      obtain ⟨p, e1, e2, hp, _⟩ := par hw h h0
      rw [e2, upM_app hw fd hfd k p hp]
    · rw [if_neg hd, if_neg hd]
theorem ch_app (hw : WFm m) {i : Nat} (h : i < m.length) : ch (m ++ [e]) i = ch m i := by
  rw [ch_at h, ch_at (m := m ++ [e]) (by simp; omega)]
  simp only [List.getElem_append_left h]
  exact chainL_app hw _ i h
theorem clo_app {i : Nat} (h : i < m.length) : clo (m ++ [e]) i = clo m i := by
  rw [clo_at h, clo_at (m := m ++ [e]) (by simp; omega)]
  simp only [List.getElem_append_left h]
theorem ext_app (hw : WFm m) {a b : Nat} (ha : a < m.length) (hb : b < m.length) : extM (m ++ [e]) a b = extM m a b := by
  unfold extM
  rw [entAt_app ha, entAt_app hb, entAt_nat ha, entAt_nat hb]
  simp only
  rw [upM_app hw _ (hw.depth b hb).1 _ a ha]
end

/-- Behind a further arrival the classes that are there answer as before. -/
structure Grown2 (m m' : List EntM) : Prop where
  len : m.length ≤ m'.length
  ent : ∀ i (h : i < m.length), m'[i]'(by omega) = m[i]
  chn : ∀ i, i < m.length → ch m' i = ch m i
  cls : ∀ i, i < m.length → clo m' i = clo m i
  ext : ∀ a b : Nat, a < m.length → b < m.length → extM m' a b = extM m a b
theorem grown2 {m : List EntM} (hw : WFm m) (c : ClsM) : Grown2 m (defM m c) := by
  rcases defM_cases m c with ⟨_, h, _⟩ | ⟨_, h, _⟩
  · rw [h]
    exact ⟨by simp, fun i hi => by simp only [List.getElem_append_left hi], fun i hi => ch_app hw hi, fun i hi => clo_app hi, fun a b ha hb => ext_app hw ha hb⟩
  · rw [h]
    exact ⟨Nat.le_refl _, fun _ _ => rfl, fun _ _ => rfl, fun _ _ => rfl, fun _ _ _ _ => rfl⟩

/-- Two worlds of classes beside each other. -/
def Two (bw bv : Nat) (w0 wr : World) (mw mv : List EntM) : Prop :=
  ∃ S T : Nat → Prop, HW S bw wr mw ∧ HW T bv wr mv ∧ (∀ k, S k → w0.heap.size ≤ k ∧ k < wr.heap.size) ∧ (∀ k, T k → w0.heap.size ≤ k ∧ k < wr.heap.size) ∧ (∀ k, S k → ¬ T k) ∧ OrdM mw ∧ OrdM mv ∧ Below w0.heap.size w0 wr

section
variable {bw bv : Nat} {w0 wr : World} {mw mv : List EntM}
theorem Two.swap (h : Two bw bv w0 wr mw mv) : Two bv bw w0 wr mv mw := by
  obtain ⟨S, T, h1, h2, h3, h4, h5, h6, h7, h8⟩ := h
  exact ⟨T, S, h2, h1, h4, h3, fun k hk hs => h5 k hs hk, h7, h6, h8⟩
theorem Two.next {w' : World} (h : Two bw bv w0 wr mw mv) (hb : Below wr.heap.size wr w') : Two bw bv w0 w' mw mv := by
  obtain ⟨S, T, h1, h2, h3, h4, h5, h6, h7, h8⟩ := h
  have hz := hb.size
  exact ⟨S, T, h1.alike hz (Alike.of_below hb fun k hk => (h3 k hk).2), h2.alike hz (Alike.of_below hb fun k hk => (h4 k hk).2), fun k hk => ⟨(h3 k hk).1, by have := (h3 k hk).2; omega⟩, fun k hk => ⟨(h4 k hk).1, by have := (h4 k hk).2; omega⟩, h5, h6, h7, h8.trans (hb.mono h8.size)⟩
theorem Two.below (h : Two bw bv w0 wr mw mv) : Below w0.heap.size w0 wr := by
  obtain ⟨S, T, h1, h2, h3, h4, h5, h6, h7, h8⟩ := h
  exact h8
theorem Two.wf (h : Two bw bv w0 wr mw mv) : WFm mw := by
  obtain ⟨S, T, h1, h2, h3, h4, h5, h6, h7, h8⟩ := h
  exact h1.wf
theorem Two.ord (h : Two bw bv w0 wr mw mv) : OrdM mw := by
  obtain ⟨S, T, h1, h2, h3, h4, h5, h6, h7, h8⟩ := h
  exact h6
theorem Two.defines {SC : Nat → Prop} {c : ClsM} {cs : List Value} (h : Two bw bv w0 wr mw mv) (hc : ClsIs SC wr cs c) (hSC : ∀ k, SC k → k < wr.heap.size) (he : Lf.Env wr) :
    Calls Tryz.prog 16 #[.pointer (some ⟨bw, 0, none⟩), .agg cs.toArray] wr fun e w' => e = .returned (.tuple #[.int .i64 (defN mw c), .int .i64 (defE mw c)]) ∧ Two bw bv w0 w' (defM mw c) mv := by
  obtain ⟨S, T, h1, h2, h3, h4, h5, h6, h7, h8⟩ := h
  refine (Define h1 h6.short hc hSC (fun k hk => (h3 k hk).2) he).mono ?_
  rintro e w' ⟨he', hw', hc'⟩
  have hz := hc'.size
  have hz8 := h8.size
  refine ⟨he', _, T, hw', h2.alike hz (Alike.of_chg hc' fun k hk => ⟨(h4 k hk).2, fun hs => h5 k hs hk⟩), fun k hk => ?_, fun k hk => ⟨(h4 k hk).1, by have := (h4 k hk).2; omega⟩, fun k hk ht => ?_, defM_ord h1.wf h6 c, h7, h8.trans (hc'.below hz8 fun k hk hs => by have := (h3 k hs).1; omega)⟩
  · rcases hk with hk | hk
    · exact ⟨(h3 k hk).1, by have := (h3 k hk).2; omega⟩
    · exact ⟨by omega, hk.2⟩
  · rcases hk with hk | hk
    · exact h5 k hk ht
    · have := (h4 k ht).2; omega
theorem Two.len (h : Two bw bv w0 wr mw mv) : Calls Tryz.prog 19 #[.pointer (some ⟨bw, 0, none⟩)] wr fun e w' => e = .returned (.int .i64 mw.length) ∧ wr = w' := by
  obtain ⟨S, T, h1, h2, h3, h4, h5, h6, h7, h8⟩ := h
  exact Len h1
theorem Two.class (h : Two bw bv w0 wr mw mv) {a : Nat} (ha : a < mw.length) : Calls Tryz.prog 20 #[.pointer (some ⟨bw, 0, none⟩), .int .i64 a] wr fun r w' => ∃ cs' : List Value, r = .returned (.tuple #[.agg cs'.toArray, .int .i64 0]) ∧ ClsIs (fun b => b < w'.heap.size) w' cs' mw[a].c ∧ Below wr.heap.size wr w' := by
  obtain ⟨S, T, h1, h2, h3, h4, h5, h6, h7, h8⟩ := h
  exact (Class_in h1 (fun k hk => (h3 k hk).2) (entAt_nat ha)).mono fun r w' ⟨cs', g1, g2, g3⟩ => ⟨cs', g1, g2.mono fun b hb => hb.2, g3⟩
theorem Two.chain (h : Two bw bv w0 wr mw mv) {a : Nat} (ha : a < mw.length) : Calls Tryz.prog 27 #[.pointer (some ⟨bw, 0, none⟩), .int .i64 a] wr fun r w' => ∃ ad c, r = .returned (.tuple #[.slice ad (ch mw a).length c, .int .i64 0]) ∧ IntSl (fun b => b < w'.heap.size) w' (.slice ad (ch mw a).length c) (ch mw a) ∧ Below wr.heap.size wr w' := by
  obtain ⟨S, T, h1, h2, h3, h4, h5, h6, h7, h8⟩ := h
  exact (Chain h1 (fun k hk => (h3 k hk).2) a).mono fun r w' ⟨ad, c, g1, g2, g3⟩ => ⟨ad, c, by rw [g1]; unfold chainM; rw [entAt_nat ha]; unfold ch chainM; rw [entAt_nat ha], g2.mono fun b hb => hb.2, g3⟩
theorem Two.closure (h : Two bw bv w0 wr mw mv) {a : Nat} (ha : a < mw.length) : Calls Tryz.prog 66 #[.pointer (some ⟨bw, 0, none⟩), .int .i64 a] wr fun r w' => ∃ ad c, r = .returned (.tuple #[.slice ad (clo mw a).length c, .int .i64 0]) ∧ IntSl (fun b => b < w'.heap.size) w' (.slice ad (clo mw a).length c) (clo mw a) ∧ Below wr.heap.size wr w' := by
  obtain ⟨S, T, h1, h2, h3, h4, h5, h6, h7, h8⟩ := h
  exact (Closure h1 a).mono fun r w' ⟨ad, c, g1, g2, g3⟩ => ⟨ad, c, by rw [g1]; unfold closureM; rw [entAt_nat ha]; unfold clo closureM; rw [entAt_nat ha], g2.mono fun b hb => hb.2, g3⟩
theorem Two.extends (h : Two bw bv w0 wr mw mv) (a b : Int) : Calls Tryz.prog 15 #[.pointer (some ⟨bw, 0, none⟩), .int .i64 a, .int .i64 b] wr fun r w' => r = .returned (.bool (extM mw a b)) ∧ Below wr.heap.size wr w' := by
  obtain ⟨S, T, h1, h2, h3, h4, h5, h6, h7, h8⟩ := h
  exact Extends h1 (fun k hk => (h3 k hk).2) a b
theorem Two.same (h : Two bw bv w0 wr mw mv) {a b : Nat} (ha : a < mw.length) (hb : b < mw.length) : Calls Tryz.prog 99 #[.pointer (some ⟨bw, 0, none⟩), .int .i64 a, .int .i64 b] wr fun r w' => r = .returned (.bool (togB mw[a].c.name mw[b].c.name mw[a].c.loader mw[b].c.loader)) ∧ Below wr.heap.size wr w' := by
  obtain ⟨S, T, h1, h2, h3, h4, h5, h6, h7, h8⟩ := h
  exact SamePackage_in h1 h6.short ha hb
end
theorem ClsIs.next {w w' : World} {cs : List Value} {c : ClsM} (h : ClsIs (fun b => b < w.heap.size) w cs c) (hb : Below w.heap.size w w') : ClsIs (fun b => b < w'.heap.size) w' cs c :=
  (h.alike (Alike.of_below hb fun _ h => h)).mono fun _ hk => Nat.lt_of_lt_of_le hk hb.size
end Go.Proofs.YtipinmbpdgjalaaGreatDoor.Hi

