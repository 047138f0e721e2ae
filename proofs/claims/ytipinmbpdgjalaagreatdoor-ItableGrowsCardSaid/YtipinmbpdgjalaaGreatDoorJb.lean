/- Virtual tables: what holds of them (plain). -/
import Derived.Test.YtipinmbpdgjalaaGreatDoorJa
set_option maxRecDepth 100000
set_option maxHeartbeats 1000000
set_option linter.unusedVariables false
set_option linter.unusedSimpArgs false
namespace Go.Proofs.YtipinmbpdgjalaaGreatDoor.Hi
open Go.RowKit Bs

theorem lastHit_cases (m : List EntM) (l : List (Int × Int)) (a : Slt) : lastHit m l a = a.2 ∨ ∃ q ∈ l, hitB m q a.1 = true ∧ lastHit m l a = q := by
  unfold lastHit
  cases h : (l.filter fun q => hitB m q a.1).getLast? with
  | none => exact .inl rfl
  | some q =>
    have := List.mem_filter.1 (List.mem_of_getLast? h)
    exact .inr ⟨q, this.1, this.2, rfl⟩
theorem mem_shape {m : List EntM} {A : List Slt} {l : List (Int × Int)} {s : Slt} : s ∈ shapeV m A l ↔ (∃ a ∈ A, s = (a.1, lastHit m l a)) ∨ (∃ q ∈ l, newB m A q = true ∧ s = (q, q)) := by
  unfold shapeV
  rw [List.mem_append]
  constructor
  · rintro (h | h)
    · obtain ⟨a, ha, rfl⟩ := List.mem_map.1 h
      exact .inl ⟨a, ha, rfl⟩
    · obtain ⟨q, hq, rfl⟩ := List.mem_map.1 h
      obtain ⟨h1, h2⟩ := List.mem_filter.1 hq
      exact .inr ⟨q, h1, h2, rfl⟩
  · rintro (⟨a, ha, rfl⟩ | ⟨q, h1, h2, rfl⟩)
    · exact .inl (List.mem_map.2 ⟨a, ha, rfl⟩)
    · exact .inr (List.mem_map.2 ⟨q, List.mem_filter.2 ⟨h1, h2⟩, rfl⟩)
/-- What holds of a class's table. -/
structure TabOk (m : List EntM) (r : Nat) (T : List Slt) : Prop where
  over : ∀ s ∈ T, ovR m s.2 s.1 = (true, 0)
  root : ∀ s ∈ T, ∃ c : Nat, c < m.length ∧ (c : Int) ∈ ch m r ∧ s.1 ∈ ownV m c
  meth : ∀ s ∈ T, ∃ c : Nat, c < m.length ∧ (c : Int) ∈ ch m r ∧ s.2 ∈ ownV m c
  one : (T.map (·.1)).Nodup
theorem own_nodup (m : List EntM) (c : Nat) : (ownV m c).Nodup := by
  unfold ownV idsC
  refine List.Pairwise.filter _ ?_
  refine List.pairwise_map.2 (List.Pairwise.imp ?_ List.nodup_range)
  intro a b h e
  simp only [Prod.mk.injEq] at e
  omega
section
variable {m : List EntM} (hw : WFm m) (ho : OrdM m)
include hw ho
theorem own_over {c : Nat} (hc : c < m.length) {q : Int × Int} (h : q ∈ ownV m c) : ovR m q q = (true, 0) := by
  have _u := ho
  obtain ⟨_, _, y, hy, hv⟩ := (mem_own hc).1 h
  rw [ovR_ok hy hy, ov_refl hw hy]
  have h8 := (vir_spec hv).1
  unfold statF
  rw [h8]
  rfl
theorem grow_ok {r p : Nat} (hr : r < m.length) {T : List Slt} (hT : TabOk m p T) (hch : ch m r = (r : Int) :: ch m p) : TabOk m r (growM m r T) := by
  rw [grow_eq]
  have hsub : ∀ c : Int, c ∈ ch m p → c ∈ ch m r := fun c h => by rw [hch]; exact List.mem_cons_of_mem _ h
  have hself : (r : Int) ∈ ch m r := by rw [hch]; exact List.mem_cons_self ..
  refine ⟨fun s hs => ?_, fun s hs => ?_, fun s hs => ?_, ?_⟩
  · rcases mem_shape.1 hs with ⟨a, ha, rfl⟩ | ⟨q, hq, _, rfl⟩
    · rcases lastHit_cases m (ownV m r) a with h | ⟨q, _, hh, h⟩
      · rw [h]; exact hT.over a ha
      · rw [h]
        obtain ⟨_, _, _, _, _, _, e⟩ := hit_spec hh
        exact e
    · exact own_over hw ho hr hq
  · rcases mem_shape.1 hs with ⟨a, ha, rfl⟩ | ⟨q, hq, _, rfl⟩
    · obtain ⟨c, h1, h2, h3⟩ := hT.root a ha
      exact ⟨c, h1, hsub _ h2, h3⟩
    · exact ⟨r, hr, hself, hq⟩
  · rcases mem_shape.1 hs with ⟨a, ha, rfl⟩ | ⟨q, hq, _, rfl⟩
    · rcases lastHit_cases m (ownV m r) a with h | ⟨q, hq, hh, h⟩
      · obtain ⟨c, h1, h2, h3⟩ := hT.meth a ha
        exact ⟨c, h1, hsub _ h2, by rw [h]; exact h3⟩
      · exact ⟨r, hr, hself, by rw [h]; exact hq⟩
    · exact ⟨r, hr, hself, hq⟩
  · unfold shapeV
    rw [List.map_append, List.map_map, List.map_map]
    refine List.nodup_append.2 ⟨hT.one, ?_, ?_⟩
    · have e : (((fun x : Slt => x.1) ∘ fun q : Int × Int => ((q, q) : Slt)) : Int × Int → Int × Int) = id := rfl
      rw [e, List.map_id]
      exact List.Pairwise.filter _ (own_nodup m r)
    · rintro a ha b hb rfl
      obtain ⟨s, hs, rfl⟩ := List.mem_map.1 ha
      obtain ⟨q, hq, e⟩ := List.mem_map.1 hb
      obtain ⟨c, h1, h2, h3⟩ := hT.root s hs
      have e1 := ((mem_own h1).1 h3).1
      have e2 := ((mem_own hr).1 (List.mem_filter.1 hq).1).1
      have e3 : q = s.1 := e
      have hn := ch_nodup hw hr
      rw [hch] at hn
      refine (List.nodup_cons.1 hn).1 ?_
      rw [← e2, e3, e1]
      exact h2
theorem tab_ok {r : Nat} (hr : r < m.length) : TabOk m r (tabM m r) := by
  refine ch_ind hw (P := fun r => ∀ h : r < m.length, TabOk m r (tabM m r)) ?_ ?_ r hr hr
  · intro h
    rw [tab_zero hw h, grow_eq]
    have hc : ch m 0 = [0] := ch_zero hw h
    have key : ∀ s ∈ shapeV m [] (ownV m 0), ∃ q ∈ ownV m 0, s = (q, q) := fun s hs => by
      rcases mem_shape.1 hs with ⟨a, ha, _⟩ | ⟨q, hq, _, e⟩
      · cases ha
      · exact ⟨q, hq, e⟩
    refine ⟨fun s hs => ?_, fun s hs => ?_, fun s hs => ?_, ?_⟩
    · obtain ⟨q, hq, rfl⟩ := key s hs
      exact own_over hw ho h hq
    · obtain ⟨q, hq, rfl⟩ := key s hs
      exact ⟨0, h, by rw [hc]; simp, hq⟩
    · obtain ⟨q, hq, rfl⟩ := key s hs
      exact ⟨0, h, by rw [hc]; simp, hq⟩
    · unfold shapeV
      rw [List.map_nil, List.nil_append, List.map_map]
      have e : (((fun x : Slt => x.1) ∘ fun q : Int × Int => ((q, q) : Slt)) : Int × Int → Int × Int) = id := rfl
      rw [e, List.map_id]
      exact List.Pairwise.filter _ (own_nodup m 0)
  · intro a p h h0 hpa hp ih _
    have hpl : p < m.length := by omega
    rw [tab_step hw h h0 hp hpl]
    exact grow_ok hw ho h (ih hpl) (ch_step hw h h0 hp hpl)
/-- A superclass's Roots stand first. -/
theorem tab_roots {a p : Nat} (h : a < m.length) (h0 : 0 < a) (hp : m[a].above = p) (hpl : p < m.length) : ∃ t, (tabM m a).map (·.1) = (tabM m p).map (·.1) ++ t := by
  have _u := ho
  rw [tab_step hw h h0 hp hpl, grow_eq]
  unfold shapeV
  rw [List.map_append, List.map_map]
  exact ⟨_, rfl⟩
end

/-! ### What arrives later -/

section
variable {m : List EntM} {e : EntM}
theorem findS_app {α β : Type} {f g : α → β} : ∀ {l : List α}, (∀ a ∈ l, f a = g a) → l.map f = l.map g := fun h => List.map_congr_left h
end
end Go.Proofs.YtipinmbpdgjalaaGreatDoor.Hi
