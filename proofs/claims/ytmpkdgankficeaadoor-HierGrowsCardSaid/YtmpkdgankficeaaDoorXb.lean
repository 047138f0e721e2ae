/- The plain law: chains, what extends what. -/
import Derived.Test.YtmpkdgankficeaaDoorXa
set_option maxRecDepth 100000
set_option maxHeartbeats 1000000
set_option linter.unusedVariables false
set_option linter.unusedSimpArgs false
namespace Go.Proofs.YtmpkdgankficeaaDoor.Hi
open Go.RowKit Bs

/-- A class's chain. -/
def ch (m : List EntM) (a : Nat) : List Int := (chainM m a).1
/-- A class's closure. -/
def clo (m : List EntM) (a : Nat) : List Int := (closureM m a).1
theorem ch_at {m : List EntM} {a : Nat} (h : a < m.length) : ch m a = chainL m (m[a].depth.toNat + 1) a := by
  unfold ch chainM; rw [entAt_nat h]
theorem clo_at {m : List EntM} {a : Nat} (h : a < m.length) : clo m a = m[a].closure := by
  unfold clo closureM; rw [entAt_nat h]
theorem clo_eq {m : List EntM} {a : Nat} (h : a < m.length) : clo m a = closAt m a := by rw [clo_at h, closAt_at h]

section
variable {m : List EntM} (hw : WFm m)
include hw

theorem par {a : Nat} (h : a < m.length) (h0 : 0 < a) : ∃ p : Nat, p < a ∧ m[a].above = p ∧ ∃ hp : p < m.length, m[a].depth = m[p].depth + 1 := by
  obtain ⟨h1, h2, h3⟩ := hw.above a h
  have h4 : ¬ m[a].above < 0 := fun e => by have := h3.1 e; omega
  refine ⟨m[a].above.toNat, by omega, by omega, by omega, (hw.depth a h).2.2.1 _ (by omega) (by omega)⟩
theorem dep0 {a : Nat} (h : a < m.length) : 0 ≤ m[a].depth ∧ (m[a].depth = 0 ↔ a = 0) := by
  refine ⟨(hw.depth a h).1, fun e => ?_, (hw.depth a h).2.2.2⟩
  by_cases h0 : 0 < a
  · obtain ⟨p, _, _, hp, e1⟩ := par hw h h0
    have := (hw.depth p hp).1
    omega
  · omega
theorem ch_zero (h : 0 < m.length) : ch m 0 = [0] := by
  rw [ch_at h]
  have hd := (hw.depth 0 h).2.2.2 rfl
  have ha := ((hw.above 0 h).2.2).2 rfl
  rw [hd]
  show chainL m 1 (0 : Nat) = _
  rw [chainL_step h, if_pos ha]
  rfl
theorem ch_step {a p : Nat} (h : a < m.length) (h0 : 0 < a) (hp : m[a].above = p) (hpl : p < m.length) : ch m a = (a : Int) :: ch m p := by
  rw [ch_at h, ch_at hpl, chainL_step h]
  have hd := (hw.depth a h).2.2.1 p hpl hp
  have hd2 := (hw.depth p hpl).1
  rw [if_neg (by rw [hp]; omega), hp]
  rw [show m[a].depth.toNat = m[p].depth.toNat + 1 by omega]

/-- Along a chain. -/
theorem ch_ind {P : Nat → Prop} (h0 : P 0) (hs : ∀ a p, (h : a < m.length) → 0 < a → p < a → m[a].above = p → P p → P a) : ∀ a, a < m.length → P a := by
  intro a
  induction a using Nat.strongRecOn with
  | _ a ih =>
    intro h
    by_cases h1 : 0 < a
    · obtain ⟨p, e1, e2, hp, _⟩ := par hw h h1
      exact hs a p h h1 e1 e2 (ih p e1 hp)
    · obtain rfl : a = 0 := by omega
      exact h0

theorem ch_mem {a : Nat} (h : a < m.length) : ∀ x ∈ ch m a, ∃ k : Nat, x = k ∧ k ≤ a ∧ ∃ hk : k < m.length, m[k].depth ≤ m[a].depth := by
  revert h
  refine fun h => ch_ind hw (P := fun a => ∀ h : a < m.length, ∀ x ∈ ch m a, ∃ k : Nat, x = k ∧ k ≤ a ∧ ∃ hk : k < m.length, m[k].depth ≤ m[a].depth) ?_ ?_ a h h
  · intro h x hx
    rw [ch_zero hw h] at hx
    obtain rfl := List.mem_singleton.1 hx
    exact ⟨0, rfl, Nat.le_refl _, h, by omega⟩
  · intro a p h h0 hpa hp ih _ x hx
    rw [ch_step hw h h0 hp (by omega)] at hx
    rcases List.mem_cons.1 hx with rfl | hx
    · exact ⟨a, rfl, Nat.le_refl _, h, by omega⟩
    · obtain ⟨k, e1, e2, hk, e3⟩ := ih (by omega) x hx
      have := (hw.depth a h).2.2.1 p (by omega) hp
      exact ⟨k, e1, by omega, hk, by omega⟩

theorem ch_len {a : Nat} (h : a < m.length) : ((ch m a).length : Int) = m[a].depth + 1 := by
  refine ch_ind hw (P := fun a => ∀ h : a < m.length, ((ch m a).length : Int) = m[a].depth + 1) ?_ ?_ a h h
  · intro h
    rw [ch_zero hw h, (hw.depth 0 h).2.2.2 rfl]; rfl
  · intro a p h h0 hpa hp ih _
    have := (hw.depth a h).2.2.1 p (by omega) hp
    have := ih (by omega)
    rw [ch_step hw h h0 hp (by omega), List.length_cons]
    omega

theorem ch_head {a : Nat} (h : a < m.length) : (ch m a)[0]? = some (a : Int) := by
  by_cases h0 : 0 < a
  · obtain ⟨p, e1, e2, hp, _⟩ := par hw h h0
    rw [ch_step hw h h0 e2 hp]; rfl
  · obtain rfl : a = 0 := by omega
    rw [ch_zero hw h]; rfl

theorem ch_last {a : Nat} (h : a < m.length) : (ch m a)[m[a].depth.toNat]? = some 0 := by
  refine ch_ind hw (P := fun a => ∀ h : a < m.length, (ch m a)[m[a].depth.toNat]? = some 0) ?_ ?_ a h h
  · intro h
    rw [ch_zero hw h, (hw.depth 0 h).2.2.2 rfl]; rfl
  · intro a p h h0 hpa hp ih _
    have e := (hw.depth a h).2.2.1 p (by omega) hp
    have e2 := (hw.depth p (by omega)).1
    rw [ch_step hw h h0 hp (by omega), show m[a].depth.toNat = m[p].depth.toNat + 1 by omega]
    simpa using ih (by omega)

theorem ch_super {a : Nat} (h : a < m.length) : ∀ i (x y : Int), (ch m a)[i]? = some x → (ch m a)[i + 1]? = some y → superM m x = (y, 0) := by
  refine ch_ind hw (P := fun a => ∀ h : a < m.length, ∀ i (x y : Int), (ch m a)[i]? = some x → (ch m a)[i + 1]? = some y → superM m x = (y, 0)) ?_ ?_ a h h
  · intro h i x y h1 h2
    rw [ch_zero hw h] at h2
    simp at h2
  · intro a p h h0 hpa hp ih _ i x y h1 h2
    rw [ch_step hw h h0 hp (by omega)] at h1 h2
    cases i with
    | zero =>
      obtain rfl : (a : Int) = x := by simpa using h1
      have h2' : (ch m p)[0]? = some y := by simpa using h2
      rw [ch_head hw (by omega)] at h2'
      injection h2' with h2'
      unfold superM
      rw [entAt_nat h]
      simp only
      rw [if_neg (by rw [hp]; omega), hp, h2']
    | succ i => exact ih (by omega) i x y (by simpa using h1) (by simpa using h2)

theorem ch_nodup {a : Nat} (h : a < m.length) : (ch m a).Nodup := by
  refine ch_ind hw (P := fun a => ∀ h : a < m.length, (ch m a).Nodup) ?_ ?_ a h h
  · intro h
    rw [ch_zero hw h]; simp
  · intro a p h h0 hpa hp ih _
    rw [ch_step hw h h0 hp (by omega), List.nodup_cons]
    refine ⟨fun hx => ?_, ih (by omega)⟩
    obtain ⟨k, e1, e2, _⟩ := ch_mem hw (show p < m.length by omega) _ hx
    omega

theorem ch_sub {a : Nat} (h : a < m.length) : ∀ (b : Nat), (b : Int) ∈ ch m a → ∀ x ∈ ch m b, x ∈ ch m a := by
  refine ch_ind hw (P := fun a => ∀ h : a < m.length, ∀ (b : Nat), (b : Int) ∈ ch m a → ∀ x ∈ ch m b, x ∈ ch m a) ?_ ?_ a h h
  · intro h b hb x hx
    rw [ch_zero hw h] at hb ⊢
    have e : b = 0 := by have := List.mem_singleton.1 hb; omega
    subst e
    rwa [ch_zero hw h] at hx
  · intro a p h h0 hpa hp ih _ b hb x hx
    by_cases e : b = a
    · subst e; exact hx
    · rw [ch_step hw h h0 hp (by omega)] at hb ⊢
      rcases List.mem_cons.1 hb with hb | hb
      · omega
      · exact List.mem_cons_of_mem _ (ih (by omega) b hb x hx)

theorem ch_root {a : Nat} (h : a < m.length) : (0 : Int) ∈ ch m a := List.mem_of_getElem? (ch_last hw h)

/-- Going up to a depth. -/
theorem up_iff {b : Nat} (hb : b < m.length) {a : Nat} (h : a < m.length) : (upM m m[b].depth m[a].depth.toNat a == (b : Int)) = true ↔ (b : Int) ∈ ch m a := by
  refine ch_ind hw (P := fun a => ∀ h : a < m.length, (upM m m[b].depth m[a].depth.toNat a == (b : Int)) = true ↔ (b : Int) ∈ ch m a) ?_ ?_ a h h
  · intro h
    have hd := (hw.depth 0 h).2.2.2 rfl
    rw [ch_zero hw h, upM_stop (entAt_nat h) (by have := (hw.depth b hb).1; omega)]
    simp
    omega
  · intro a p h h0 hpa hp ih _
    have hpl : p < m.length := by omega
    have e := (hw.depth a h).2.2.1 p hpl hp
    have e2 := (hw.depth p hpl).1
    rw [ch_step hw h h0 hp hpl]
    by_cases hd : m[b].depth < m[a].depth
    · rw [show m[a].depth.toNat = m[p].depth.toNat + 1 by omega, upM_go (entAt_nat h) hd, hp, ih hpl]
      constructor
      · exact fun h => List.mem_cons_of_mem _ h
      · intro hm
        rcases List.mem_cons.1 hm with hm | hm
        · obtain rfl : b = a := by omega
          omega
        · exact hm
    · rw [upM_stop (entAt_nat h) hd]
      constructor
      · intro he
        have : (a : Int) = b := by simpa using he
        rw [this]; exact List.mem_cons_self ..
      · intro hm
        rcases List.mem_cons.1 hm with hm | hm
        · rw [hm]; simp
        · obtain ⟨k, e1, _, hk, e3⟩ := ch_mem hw hpl _ hm
          obtain rfl : b = k := by omega
          omega
end

/-- How many of the first n are in a list of numbers below n. -/
theorem count_mem : ∀ (l : List Int) (n : Nat), l.Nodup → (∀ x ∈ l, 0 ≤ x ∧ x < n) → ((List.range n).filter fun b : Nat => decide ((b : Int) ∈ l)).length = l.length := by
  intro l n hl hx
  induction l with
  | nil => simp
  | cons y l ih =>
    obtain ⟨h1, h2⟩ := List.nodup_cons.1 hl
    have ih' := ih h2 fun x hx' => hx x (by simp [hx'])
    have hy := hx y (by simp)
    have key : ∀ n : Nat, ((List.range n).filter fun b : Nat => decide ((b : Int) ∈ y :: l)).length = ((List.range n).filter fun b : Nat => decide ((b : Int) ∈ l)).length + (if y < n then 1 else 0) := by
      intro n
      induction n with
      | zero => simp; omega
      | succ n ihn =>
        rw [List.range_succ, List.filter_append, List.filter_append, List.length_append, List.length_append, ihn]
        by_cases e : (n : Int) = y
        · subst e
          simp [h1]
          omega
        · have e' : decide ((n : Int) ∈ y :: l) = decide ((n : Int) ∈ l) := by simp [e]
          have e'' : (y < ((n + 1 : Nat) : Int)) ↔ (y < (n : Int)) := by omega
          simp only [List.filter_cons, List.filter_nil, e', e'']
          omega
    rw [key n, ih', List.length_cons, if_pos (by omega)]

section
variable {m : List EntM} (hw : WFm m) (ho : OrdM m)
include hw ho

theorem ch_cls {a : Nat} (h : a < m.length) : ∀ x ∈ ch m a, x ≠ a → Pr.isIfc (clsAt m x.toNat) = false := by
  have key : ∀ a, a < m.length → ∀ h : a < m.length, ∀ x ∈ ch m a, x ≠ a → Pr.isIfc (clsAt m x.toNat) = false := ch_ind hw (fun h x hx hne => by
      rw [ch_zero hw h] at hx
      have := List.mem_singleton.1 hx
      exact absurd this (by simpa using hne)) (fun a p h h0 hpa hp ih _ x hx hne => by
      rw [ch_step hw h h0 hp (by omega)] at hx
      rcases List.mem_cons.1 hx with rfl | hx
      · exact absurd rfl hne
      · by_cases e : x = p
        · subst e
          have := (ho.sup a h h0).1
          rwa [hp] at this
        · exact ih (by omega) x hx e)
  exact key a h h
theorem ch_ifc {a : Nat} (h : a < m.length) (hi : Pr.isIfc (clsAt m a) = true) : ∀ x ∈ ch m a, x = a ∨ x = 0 := by
  intro x hx
  by_cases h0 : 0 < a
  · obtain ⟨p, e1, e2, hp, _⟩ := par hw h h0
    have := (ho.sup a h h0).2 (by rw [← clsAt_at h]; exact hi)
    rw [ch_step hw h h0 e2 hp] at hx
    rcases List.mem_cons.1 hx with hx | hx
    · exact .inl hx
    · obtain rfl : p = 0 := by omega
      rw [ch_zero hw hp] at hx
      exact .inr (List.mem_singleton.1 hx)
  · obtain rfl : a = 0 := by omega
    rw [ch_zero hw h] at hx
    exact .inr (List.mem_singleton.1 hx)

theorem clo_mem {a : Nat} (h : a < m.length) : ∀ x ∈ clo m a, ∃ k : Nat, x = k ∧ k < a ∧ Pr.isIfc (clsAt m k) = true := by
  intro x hx
  rw [clo_at h] at hx
  have h1 := (hw.closed a h).2 x hx
  have h2 := ho.ifc a h x hx
  exact ⟨x.toNat, by omega, by omega, h2⟩
/-- A chain's classes have closures within. -/
theorem clo_ch {a : Nat} (h : a < m.length) : ∀ b : Nat, (b : Int) ∈ ch m a → ∀ x ∈ clo m b, x ∈ clo m a := by
  have key : ∀ a, a < m.length → ∀ h : a < m.length, ∀ b : Nat, (b : Int) ∈ ch m a → ∀ x ∈ clo m b, x ∈ clo m a := ch_ind hw (fun h b hb x hx => by
      rw [ch_zero hw h] at hb
      have e : b = 0 := by have := List.mem_singleton.1 hb; omega
      subst e; exact hx) (fun a p h h0 hpa hp ih _ b hb x hx => by
      by_cases e : b = a
      · subst e; exact hx
      · rw [ch_step hw h h0 hp (by omega)] at hb
        rcases List.mem_cons.1 hb with hb | hb
        · omega
        · have h1 := ih (by omega) b hb x hx
          obtain ⟨r, h2⟩ := ho.pre a h h0
          rw [clo_at h, h2, hp, ← clo_eq (by omega)]
          exact List.mem_append_left _ h1)
  exact key a h h
/-- A closure's interfaces have closures within. -/
theorem clo_clo {a : Nat} (h : a < m.length) {b : Nat} (hb : (b : Int) ∈ clo m a) : ∀ x ∈ clo m b, x ∈ clo m a := by
  intro x hx
  obtain ⟨k, e1, e2, _⟩ := clo_mem hw ho h _ hb
  obtain rfl : b = k := by omega
  rw [clo_eq (by omega)] at hx
  rw [clo_at h] at hb ⊢
  obtain ⟨j, hj, e⟩ := List.getElem_of_mem hb
  exact List.mem_of_mem_take (ho.ord a h j hj x (by rw [e]; exact hx))

/-- b is above a: it is of a's chain or closure. -/
theorem ext_iff {a b : Nat} (ha : a < m.length) (hb : b < m.length) : extM m a b = true ↔ (b : Int) ∈ ch m a ∨ (b : Int) ∈ clo m a := by
  unfold extM
  rw [entAt_nat ha, entAt_nat hb]
  simp only
  by_cases hi : Pr.isIfc m[b].c = true
  · rw [if_pos hi, ← clo_at ha, Bool.or_eq_true]
    have hc : (clo m a).contains (b : Int) = true ↔ (b : Int) ∈ clo m a := by simp
    rw [hc]
    constructor
    · rintro (h | h)
      · left
        have : (a : Int) = b := by simpa using h
        rw [← this]
        exact List.mem_of_getElem? (ch_head hw ha)
      · exact .inr h
    · rintro (h | h)
      · left
        by_cases e : (b : Int) = a
        · rw [e]; simp
        · have := ch_cls hw ho ha _ h e
          rw [show ((b : Int)).toNat = b by simp, clsAt_at hb, hi] at this
          cases this
      · exact .inr h
  · rw [if_neg hi, up_iff hw hb ha]
    constructor
    · exact .inl
    · rintro (h | h)
      · exact h
      · obtain ⟨k, e1, e2, e3⟩ := clo_mem hw ho ha _ h
        obtain rfl : b = k := by omega
        rw [clsAt_at hb] at e3
        exact absurd e3 hi
theorem ext_le {a b : Nat} (ha : a < m.length) (hb : b < m.length) (h : extM m a b = true) : b ≤ a := by
  rcases (ext_iff hw ho ha hb).1 h with h | h
  · obtain ⟨k, e1, e2, _⟩ := ch_mem hw ha _ h
    omega
  · obtain ⟨k, e1, e2, _⟩ := clo_mem hw ho ha _ h
    omega
theorem ext_refl {a : Nat} (ha : a < m.length) : extM m a a = true := (ext_iff hw ho ha ha).2 (.inl (List.mem_of_getElem? (ch_head hw ha)))
theorem ext_root {a : Nat} (ha : a < m.length) : extM m a (0 : Nat) = true := (ext_iff hw ho ha ho.root.1).2 (.inl (ch_root hw ha))
theorem ext_anti {a b : Nat} (ha : a < m.length) (hb : b < m.length) (h : extM m a b = true) (hne : a ≠ b) : extM m b a = false := by
  cases e : extM m b a with
  | false => rfl
  | true =>
    have := ext_le hw ho ha hb h
    have := ext_le hw ho hb ha e
    omega
theorem ext_trans {a b c : Nat} (ha : a < m.length) (hb : b < m.length) (hc : c < m.length) (h1 : extM m a b = true) (h2 : extM m b c = true) : extM m a c = true := by
  rw [ext_iff hw ho ha hc]
  rcases (ext_iff hw ho ha hb).1 h1 with h1 | h1
  · rcases (ext_iff hw ho hb hc).1 h2 with h2 | h2
    · exact .inl (ch_sub hw ha b h1 _ h2)
    · exact .inr (clo_ch hw ho ha b h1 _ h2)
  · rcases (ext_iff hw ho hb hc).1 h2 with h2 | h2
    · obtain ⟨k, e1, e2, e3⟩ := clo_mem hw ho ha _ h1
      obtain rfl : b = k := by omega
      rcases ch_ifc hw ho hb e3 _ h2 with e | e
      · rw [e]; exact .inr h1
      · rw [e]; exact .inl (ch_root hw ha)
    · exact .inr (clo_clo hw ho ha h1 _ h2)

/-- How many classes a class extends. -/
theorem ext_count {a : Nat} (ha : a < m.length) : ((List.range m.length).filter fun b : Nat => extM m a b).length = (ch m a).length + (clo m a).length := by
  rw [← List.length_append]
  rw [← count_mem (ch m a ++ clo m a) m.length ?_ ?_]
  · congr 1
    refine List.filter_congr fun b hb => ?_
    have hb' := List.mem_range.1 hb
    rw [Bool.eq_iff_iff, ext_iff hw ho ha hb', decide_eq_true_eq, List.mem_append]
  · rw [List.nodup_append]
    refine ⟨ch_nodup hw ha, by rw [clo_at ha]; exact (hw.closed a ha).1, fun x hx y hy e => ?_⟩
    subst e
    obtain ⟨k, e1, e2, e3⟩ := clo_mem hw ho ha _ hy
    have := ch_cls hw ho ha x hx (by omega)
    rw [e1] at this
    simp [e3] at this
  · intro x hx
    rcases List.mem_append.1 hx with hx | hx
    · obtain ⟨k, e1, e2, hk, _⟩ := ch_mem hw ha _ hx
      omega
    · obtain ⟨k, e1, e2, e3⟩ := clo_mem hw ho ha _ hx
      omega
end
end Go.Proofs.YtmpkdgankficeaaDoor.Hi
