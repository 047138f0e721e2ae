/- Virtual tables: a method's slot, and what stands in it below (plain). -/
import Derived.Test.YtipinmbpdgjalaaGreatDoorJb
set_option maxRecDepth 100000
set_option maxHeartbeats 1000000
set_option linter.unusedVariables false
set_option linter.unusedSimpArgs false
namespace Go.Proofs.YtipinmbpdgjalaaGreatDoor.Hi
open Go.RowKit Bs

/-- The slot by which a virtual method is selected. -/
def slotI (m : List EntM) (p : Int × Int) (T : List Slt) : Option Nat := match T.findIdx? (fun s => s.1 == p) with
  | some i => some i
  | none => T.findIdx? (fun s => s.2 == p)
theorem beq_id {a b : Int × Int} : (a == b) = true ↔ a = b := by
  obtain ⟨a1, a2⟩ := a
  obtain ⟨b1, b2⟩ := b
  simp [Prod.ext_iff]
section
variable {m : List EntM} (hw : WFm m) (ho : OrdM m) (hf : FlA m)
include hw ho hf
/-- Of one class one method takes a Root's slots. -/
theorem hit_one {p q a : Int × Int} (hp : hitB m p a = true) (hq : hitB m q a = true) (h : p.1 = q.1) : p = q := by
  have _u := And.intro hw ho
  obtain ⟨x, y, hy, hx, n1, n2, _⟩ := hit_spec hp
  obtain ⟨x', z, hz, hx', k1, k2, _⟩ := hit_spec hq
  obtain rfl : x = x' := by rw [hx] at hx'; exact Option.some.inj hx'
  have e1 := find_self hf hy
  have e2 := find_self hf hz
  rw [n1, n2, h] at e1
  rw [k1, k2, e1] at e2
  exact Prod.ext h (congrArg Prod.fst e2)
/-- A virtual method's slot in its own class's table. -/
theorem slot_own {c : Nat} (hc : c < m.length) {p : Int × Int} (hp : p ∈ ownV m c) : ∃ (i : Nat) (hi : i < (tabM m c).length), slotI m p (tabM m c) = some i ∧ (tabM m c)[i].2 = p ∧ ((tabM m c)[i].1 = p ∨ (hitB m p (tabM m c)[i].1 = true ∧ pubB m p = true)) := by
  obtain ⟨A, hA, hAr, hAm⟩ : ∃ A, tabM m c = shapeV m A (ownV m c) ∧ (∀ a ∈ A, a.1.1 ≠ (c : Int)) ∧ (∀ a ∈ A, a.2.1 ≠ (c : Int)) := by
    by_cases h0 : 0 < c
    · obtain ⟨pr, hpr⟩ : ∃ pr : Nat, m[c].above = pr := ⟨m[c].above.toNat, by have := hw.above c hc; omega⟩
      have hpl : pr < m.length := by have := hw.above c hc; omega
      have hnc : (c : Int) ∉ ch m pr := by
        have hn := ch_nodup hw hc
        rw [ch_step hw hc h0 hpr hpl] at hn
        exact (List.nodup_cons.1 hn).1
      refine ⟨tabM m pr, ?_, fun a ha e => ?_, fun a ha e => ?_⟩
      · rw [tab_step hw hc h0 hpr hpl, grow_eq]
      · obtain ⟨k, hk, h1, h2⟩ := (tab_ok hw ho hpl).root a ha
        have e1 := ((mem_own hk).1 h2).1
        exact hnc (by rw [← e, e1]; exact h1)
      · obtain ⟨k, hk, h1, h2⟩ := (tab_ok hw ho hpl).meth a ha
        have e1 := ((mem_own hk).1 h2).1
        exact hnc (by rw [← e, e1]; exact h1)
    · obtain rfl : c = 0 := by omega
      exact ⟨[], by rw [tab_zero hw hc, grow_eq], (fun a ha => by cases ha), (fun a ha => by cases ha)⟩
  rw [hA]
  have hpc := ((mem_own hc).1 hp).1
  cases hn : newB m A p with
  | true =>
    have hmem : ((p, p) : Slt) ∈ shapeV m A (ownV m c) := mem_shape.2 (.inr ⟨p, hp, hn, rfl⟩)
    cases hix : (shapeV m A (ownV m c)).findIdx? (fun s => s.1 == p) with
    | none => 
      have := List.findIdx?_eq_none_iff.1 hix _ hmem
      simp at this
    | some i =>
      obtain ⟨hi, h1, _⟩ := List.findIdx?_eq_some_iff_getElem.1 hix
      have h1' := beq_id.1 h1
      refine ⟨i, hi, by unfold slotI; rw [hix], ?_, .inl h1'⟩
      rcases mem_shape.1 (List.getElem_mem hi) with ⟨a, ha, e⟩ | ⟨q, hq, _, e⟩
      · exfalso
        refine hAr a ha ?_
        rw [e] at h1'
        rw [show a.1 = p from h1', hpc]
      · rw [e] at h1' ⊢
        exact h1'
  | false =>
    have hnn : A.any (fun a => hitB m p a.1) = true ∧ pubB m p = true := by
      unfold newB at hn
      simp only [Bool.or_eq_false_iff, Bool.not_eq_false'] at hn
      exact hn
    obtain ⟨a, ha, hh⟩ := List.any_eq_true.1 hnn.1
    have hl : ∀ a : Slt, hitB m p a.1 = true → lastHit m (ownV m c) a = p := fun a hh => by
      unfold lastHit
      cases hg : ((ownV m c).filter fun q => hitB m q a.1).getLast? with
      | none =>
        have hmm : p ∈ (ownV m c).filter fun q => hitB m q a.1 := List.mem_filter.2 ⟨hp, hh⟩
        rw [List.getLast?_eq_none_iff.1 hg] at hmm
        cases hmm
      | some q =>
        have h3 := List.mem_filter.1 (List.mem_of_getLast? hg)
        exact (hit_one hw ho hf hh h3.2 (by rw [hpc, ((mem_own hc).1 h3.1).1])).symm
    have hno : (shapeV m A (ownV m c)).findIdx? (fun s => s.1 == p) = none := by
      rw [List.findIdx?_eq_none_iff]
      intro s hs
      rw [Bool.eq_false_iff]
      intro h
      have h' := beq_id.1 h
      rcases mem_shape.1 hs with ⟨b, hb, e⟩ | ⟨q, hq, hq2, e⟩
      · refine hAr b hb ?_
        rw [e] at h'
        rw [show b.1 = p from h', hpc]
      · rw [e] at h'
        have h2 : q = p := h'
        rw [h2, hn] at hq2
        cases hq2
    have hmem : ((a.1, p) : Slt) ∈ shapeV m A (ownV m c) := mem_shape.2 (.inl ⟨a, ha, by rw [hl a hh]⟩)
    cases hix : (shapeV m A (ownV m c)).findIdx? (fun s => s.2 == p) with
    | none =>
      have := List.findIdx?_eq_none_iff.1 hix _ hmem
      simp at this
    | some i =>
      obtain ⟨hi, h1, _⟩ := List.findIdx?_eq_some_iff_getElem.1 hix
      have h1' := beq_id.1 h1
      refine ⟨i, hi, by unfold slotI; rw [hno]; exact hix, h1', .inr ⟨?_, hnn.2⟩⟩
      rcases mem_shape.1 (List.getElem_mem hi) with ⟨b, hb, e⟩ | ⟨q, hq, hq2, e⟩
      · rw [e] at h1' ⊢
        have h2 : lastHit m (ownV m c) b = p := h1'
        rcases lastHit_cases m (ownV m c) b with h | ⟨q, hq, hhq, h⟩
        · exfalso
          -- what stood there is of a class above
          have hb2 := hAm b hb
          rw [h] at h2
          exact hb2 (by rw [h2, hpc])
        · rw [h2] at h
          rw [← h] at hhq
          exact hhq
      · exfalso
        rw [e] at h1'
        have h2 : q = p := h1'
        rw [h2, hn] at hq2
        cases hq2
/-- The nearest of a chain that overrides. -/
def Near (m : List EntM) (x : MethM) (p : Int × Int) (r : Nat) (n : Int × Int) : Prop := n ∈ allK m x p m.length ∧ ∃ (k : Nat) (hk : k < (ch m r).length), n.1 = (ch m r)[k] ∧ ∀ k' (h : k' < (ch m r).length), k' < k → ∀ q ∈ allK m x p m.length, q.1 ≠ (ch m r)[k']
theorem near_first {x : MethM} {p n : Int × Int} (hx : methAt m p = some x) {r : Nat} (hr : r < m.length) (h : Near m x p r n) : firstE m x p r = (n, 0) := by
  have _u := hf
  obtain ⟨i, j, hi, _, rfl, _⟩ := methAt_some hx
  obtain ⟨h1, k, hk, h2, h3⟩ := h
  exact first_near hw ho x hi (j : Int) hr hk h1 h2 h3
/-- What overrides stands in its class, and takes the Root's slots; and back. -/
theorem hit_all {c : Nat} (hc : c < m.length) {p a : Int × Int} {x : MethM} (hp : p ∈ ownV m c) (hx : methAt m p = some x) (ha : a = p ∨ (hitB m p a = true ∧ pubB m p = true)) {b : Nat} (hb : b < m.length) {q : Int × Int} (hq : q ∈ allK m x p m.length) (hqb : q.1 = (b : Int)) : q ∈ ownV m b ∧ hitB m q a = true := by
  have _u := hf
  obtain ⟨hpc, hpi, x', hx', hv⟩ := (mem_own hc).1 hp
  obtain rfl : x = x' := by rw [hx] at hx'; exact Option.some.inj hx'
  have hpp : hitB m p p = true := by
    unfold hitB alikeB
    rw [hx, own_over hw ho hc hp]
    simp
  have hpa : hitB m p a = true := by
    rcases ha with rfl | ⟨h, _⟩
    · exact hpp
    · exact h
  obtain ⟨c', hc', h1, h2⟩ := mem_all.1 hq
  obtain ⟨hs, hor⟩ := down_mem h1
  rcases hor with rfl | ⟨_, c'', _, h3, _⟩
  · obtain rfl : b = c := by rw [hpc] at hqb; omega
    exact ⟨hp, hpa⟩
  · obtain ⟨h4, h5, y, hy, n1, n2, hfr⟩ := own_spec h3
    have hpv : privF y.flags = false := by
      unfold ownM at h3
      split at h3
      · split at h3
        · cases h3
        · next z hz =>
          split at h3
          · next hcond =>
            have e := Option.some.inj h3
            rw [e, hy] at hz
            rw [Option.some.inj hz]
            simp only [Bool.and_eq_true, Bool.not_eq_true'] at hcond
            exact hcond.2
          · cases h3
      · cases h3
    have hvy : virX y = true := by
      unfold freeX statF at hfr
      unfold privF at hpv
      simp only [Bool.and_eq_true, Bool.not_eq_true', bne_eq_false_iff_eq] at hfr hpv
      unfold virX
      rw [mask_or (a := 8) (b := 2) (by decide) hfr.1 hpv, hfr.2]
      rfl
    have hcb : c'' = (b : Int) := by rw [← h4, hqb]
    have hyo : q ∈ ownV m b := (mem_own hb).2 ⟨hqb, by rw [← hcb]; exact h5, y, hy, hvy⟩
    refine ⟨hyo, ?_⟩
    have hqp : ovR m q p = (true, 0) := all_over hx hq
    obtain ⟨z, x2, hx2, hz, k1, k2, hov⟩ := hit_spec hpa
    obtain rfl : x2 = x := by rw [hx] at hx2; exact (Option.some.inj hx2).symm
    unfold hitB alikeB
    rw [hy, hz]
    have hqa : ovR m q a = (true, 0) := by
      rw [ovR_ok hz hy]
      rw [ovR_ok hx hy] at hqp
      rw [ovR_ok hz hx] at hov
      have e1 : ovM m q p x2 = true := congrArg Prod.fst hqp
      have e2 : ovM m p a z = true := congrArg Prod.fst hov
      rw [ov_trans hw ho hy hx hz e1 e2]
    rw [hqa]
    simp [str_eq, n1, n2, k1, k2]
theorem all_hit {c : Nat} (hc : c < m.length) {p a : Int × Int} {x : MethM} (hp : p ∈ ownV m c) (hx : methAt m p = some x) (ha : a = p ∨ (hitB m p a = true ∧ pubB m p = true)) {b : Nat} (hb : b < m.length) (hbc : extM m b c = true) {q : Int × Int} (hq : q ∈ ownV m b) (hh : hitB m q a = true) : q ∈ allK m x p m.length := by
  obtain ⟨hqb, hbi, y, hy, hvy⟩ := (mem_own hb).1 hq
  obtain ⟨hpc, hpi, x', hx', hv⟩ := (mem_own hc).1 hp
  obtain rfl : x = x' := by rw [hx] at hx'; exact Option.some.inj hx'
  have hvs := vir_spec hv
  rcases ha with rfl | ⟨hpa, hpub⟩
  · obtain ⟨_, _, _, _, _, _, hov⟩ := hit_spec hh
    rw [ovR_ok hx hy] at hov
    have e1 : ovM m q a x = true := congrArg Prod.fst hov
    have h2 := ov_mem e1
    rw [hqb, Int.toNat_natCast] at h2
    exact mem_all.2 ⟨b, hb, h2, hqb⟩
  · have hs : statF x.flags = false := by unfold statF; rw [hvs.1]; rfl
    have hop : bits .and .i64 x.flags 5 ≠ 0 := by
      unfold pubB at hpub
      rw [hx] at hpub
      simpa using hpub
    obtain ⟨z, y2, hy2, hz, n1, n2, _⟩ := hit_spec hh
    obtain ⟨z2, x2, hx2, hz2, k1, k2, _⟩ := hit_spec hpa
    obtain rfl : y2 = y := by rw [hy] at hy2; exact (Option.some.inj hy2).symm
    obtain rfl : x2 = x := by rw [hx] at hx2; exact (Option.some.inj hx2).symm
    obtain rfl : z2 = z := by rw [hz] at hz2; exact (Option.some.inj hz2).symm
    have hfs := find_self hf hy
    rw [n1, n2, ← k1, ← k2, hqb] at hfs
    have hyy : methAt m ((b : Int), (findH m (b : Int) x2.name x2.desc).1) = some y2 := by
      rw [hfs, show (((b : Int), q.2) : Int × Int) = q from by rw [← hqb]]
      exact hy
    have hv10 : bits .and .i64 y2.flags 10 = 0 := by
      unfold virX at hvy
      simp only [Bool.and_eq_true, beq_iff_eq] at hvy
      exact hvy.1
    obtain ⟨q', hq', hqb'⟩ := all_open hw ho hx hs hop hvs.2.2.1 (by rw [hpc]; exact hpi) hb (by rw [hfs]) hbi (by rw [hpc]; exact hbc) hyy hv10
    obtain ⟨h3, h4⟩ := hit_all hw ho hf hc hp hx (.inr ⟨hpa, hpub⟩) hb hq' hqb'
    rw [hit_one hw ho hf hh h4 (by rw [hqb, hqb'])]
    exact hq'
/-- What stands in a method's slot, in the table of a class below. -/
theorem slot_below {c : Nat} (hc : c < m.length) {p : Int × Int} {x : MethM} (hp : p ∈ ownV m c) (hx : methAt m p = some x) {i : Nat} (hi : i < (tabM m c).length) (h2 : (tabM m c)[i].2 = p) (h1 : (tabM m c)[i].1 = p ∨ (hitB m p (tabM m c)[i].1 = true ∧ pubB m p = true)) {r : Nat} (hr : r < m.length) (hcr : (c : Int) ∈ ch m r) :
    ∃ hir : i < (tabM m r).length, (tabM m r)[i].1 = (tabM m c)[i].1 ∧ Near m x p r (tabM m r)[i].2 := by
  obtain ⟨hpc, hpi, x', hx', hv⟩ := (mem_own hc).1 hp
  obtain rfl : x = x' := by rw [hx] at hx'; exact Option.some.inj hx'
  have hs : statF x.flags = false := by unfold statF; rw [(vir_spec hv).1]; rfl
  have base : ∀ h : c < m.length, Near m x p c (tabM m c)[i].2 := fun h => by
    obtain ⟨t, ht, _⟩ := ch_cons hw hc
    refine ⟨by rw [h2]; exact all_self hw hx hs, 0, by rw [ht]; simp, ?_, fun k' h' hlt => absurd hlt (Nat.not_lt_zero _)⟩
    rw [h2, hpc]
    simp [ht]
  refine ch_ind hw (P := fun r => ∀ h : r < m.length, (c : Int) ∈ ch m r → ∃ hir : i < (tabM m r).length, (tabM m r)[i].1 = (tabM m c)[i].1 ∧ Near m x p r (tabM m r)[i].2) ?_ ?_ r hr hr hcr
  · intro h hcr
    rw [ch_zero hw h] at hcr
    obtain rfl : c = 0 := by have := List.mem_singleton.1 hcr; omega
    exact ⟨hi, rfl, base hc⟩
  · intro a pr h h0 hpa hpr ih _ hcr
    have hpl : pr < m.length := by omega
    by_cases hca : c = a
    · subst hca
      exact ⟨hi, rfl, base hc⟩
    have hch := ch_step hw h h0 hpr hpl
    rw [hch] at hcr
    rcases List.mem_cons.1 hcr with e | hcr
    · omega
    obtain ⟨hir, e1, hn⟩ := ih hpl hcr
    have hext : extM m a c = true := (ext_iff hw ho h hc).2 (.inl (by rw [hch]; exact List.mem_cons_of_mem _ hcr))
    have htab : tabM m a = shapeV m (tabM m pr) (ownV m a) := by rw [tab_step hw h h0 hpr hpl, grow_eq]
    have hlen : i < (tabM m a).length := by rw [htab]; unfold shapeV; rw [List.length_append, List.length_map]; omega
    have hget : (tabM m a)[i] = ((tabM m pr)[i].1, lastHit m (ownV m a) (tabM m pr)[i]) := by
      have : (tabM m a)[i]? = some ((tabM m pr)[i].1, lastHit m (ownV m a) (tabM m pr)[i]) := by
        rw [htab]
        unfold shapeV
        rw [List.getElem?_append_left (by rw [List.length_map]; exact hir), List.getElem?_map, List.getElem?_eq_getElem hir]
        rfl
      rw [List.getElem?_eq_getElem hlen] at this
      exact Option.some.inj this
    refine ⟨hlen, by rw [hget]; exact e1, ?_⟩
    rw [hget]
    have hroot : (tabM m pr)[i].1 = p ∨ (hitB m p (tabM m pr)[i].1 = true ∧ pubB m p = true) := by rw [e1]; exact h1
    show Near m x p a (lastHit m (ownV m a) (tabM m pr)[i])
    rcases lastHit_cases m (ownV m a) (tabM m pr)[i] with hl | ⟨q, hq, hh, hl⟩
    · -- either nothing takes it, or the last that does
      by_cases hany : ∃ q ∈ ownV m a, hitB m q (tabM m pr)[i].1 = true
      · obtain ⟨q, hq, hh⟩ := hany
        have hlq : lastHit m (ownV m a) (tabM m pr)[i] = q := by
          unfold lastHit
          cases hg : ((ownV m a).filter fun q => hitB m q (tabM m pr)[i].1).getLast? with
          | none =>
            have hmm : q ∈ (ownV m a).filter fun q => hitB m q (tabM m pr)[i].1 := List.mem_filter.2 ⟨hq, hh⟩
            rw [List.getLast?_eq_none_iff.1 hg] at hmm
            cases hmm
          | some q' =>
            have h3 := List.mem_filter.1 (List.mem_of_getLast? hg)
            exact (hit_one hw ho hf hh h3.2 (by rw [((mem_own h).1 hq).1, ((mem_own h).1 h3.1).1])).symm
        rw [hlq]
        refine ⟨all_hit hw ho hf hc hp hx hroot h hext hq hh, 0, by rw [hch]; simp, ?_, fun k' h' hlt => absurd hlt (Nat.not_lt_zero _)⟩
        rw [((mem_own h).1 hq).1]
        simp [hch]
      · rw [hl]
        obtain ⟨n1, k, hk, n2, n3⟩ := hn
        refine ⟨n1, k + 1, by rw [hch]; simp; exact hk, by simp only [hch, List.getElem_cons_succ]; exact n2, fun k' h' hlt q hq e => ?_⟩
        cases k' with
        | zero =>
          simp only [hch, List.getElem_cons_zero] at e
          obtain ⟨h5, h6⟩ := hit_all hw ho hf hc hp hx hroot h hq e
          exact hany ⟨q, h5, h6⟩
        | succ k' =>
          simp only [hch, List.getElem_cons_succ] at e
          exact n3 k' (by rw [hch] at h'; simpa using h') (by omega) q hq e
    · rw [hl]
      refine ⟨all_hit hw ho hf hc hp hx hroot h hext hq hh, 0, by rw [hch]; simp, ?_, fun k' h' hlt => absurd hlt (Nat.not_lt_zero _)⟩
      rw [((mem_own h).1 hq).1]
      simp [hch]
end
end Go.Proofs.YtipinmbpdgjalaaGreatDoor.Hi
