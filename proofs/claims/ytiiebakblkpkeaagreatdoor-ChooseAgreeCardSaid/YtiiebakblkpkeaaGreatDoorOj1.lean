/- Overriding: all of a world (plain). -/
import Derived.Test.YtiiebakblkpkeaaGreatDoorOa
set_option maxRecDepth 100000
set_option maxHeartbeats 1000000
set_option linter.unusedVariables false
set_option linter.unusedSimpArgs false
namespace Go.Proofs.YtiiebakblkpkeaaGreatDoor.Hi
open Go.RowKit Bs

/-- Those of a row whose class is c. -/
def ofC (c : Nat) (L : List (Int × Int)) : List (Int × Int) := L.filter fun p => p.1 == (c : Int)
/-- All that override a. -/
def allM (m : List EntM) (x : MethM) (a : Int × Int) : List (Int × Int) := (List.range m.length).flatMap fun c => ofC c (downM m x a c)

theorem any_same {α : Type} {f g : α → Bool} : ∀ {L : List α}, (∀ x ∈ L, f x = g x) → L.any f = L.any g
  | [], _ => rfl
  | x :: r, h => by rw [List.any_cons, List.any_cons, h x (List.mem_cons_self ..), any_same fun y hy => h y (List.mem_cons_of_mem _ hy)]

/-- Classes that are there. -/
def InR (m : List EntM) (L : List (Int × Int)) : Prop := ∀ p ∈ L, ∃ k : Nat, p.1 = k ∧ k < m.length
theorem step_in {m : List EntM} {n d : ByteArray} {a : Int × Int} {L : List (Int × Int)} {c : Nat} (hc : c < m.length) (h : InR m L) : InR m (stepM m n d a L (c : Int)) := by
  unfold stepM
  cases ho : ownM m n d (c : Int) with
  | none => exact h
  | some id =>
    simp only
    split
    · exact h
    · split
      · intro p hp
        rcases List.mem_append.1 hp with hp | hp
        · exact h p hp
        · obtain rfl := List.mem_singleton.1 hp
          exact ⟨c, (own_spec ho).1, hc⟩
      · exact h
theorem fold_in {m : List EntM} {n d : ByteArray} {a : Int × Int} : ∀ (l : List Int), (∀ x ∈ l, ∃ k : Nat, x = k ∧ k < m.length) → ∀ {L : List (Int × Int)}, InR m L → InR m (l.foldl (stepM m n d a) L)
  | [], _, _, h => h
  | c :: l, hl, L, h => by
    obtain ⟨k, rfl, hk⟩ := hl c (List.mem_cons_self ..)
    exact fold_in l (fun y hy => hl y (List.mem_cons_of_mem _ hy)) (step_in hk h)
theorem downL_in {m : List EntM} {a : Nat} (ha : a < m.length) (j : Int) (r : Nat) : InR m (downL m ((a : Int), j) r) := fun p hp => by
  rw [downL_mem hp]
  exact ⟨a, rfl, ha⟩
theorem ch_nat {m : List EntM} (hw : WFm m) {r : Nat} (hr : r < m.length) : ∀ x ∈ (ch m r).reverse, ∃ k : Nat, x = k ∧ k < m.length := fun x hx => by
  obtain ⟨k, rfl, _, hk, _⟩ := ch_mem hw hr x (List.mem_reverse.1 hx)
  exact ⟨k, rfl, hk⟩
theorem down_in {m : List EntM} (hw : WFm m) {x : MethM} {a : Nat} (ha : a < m.length) (j : Int) {r : Nat} (hr : r < m.length) : InR m (downM m x ((a : Int), j) r) := by
  unfold downM
  split
  · intro p hp; cases hp
  · split
    · exact fold_in _ (ch_nat hw hr) (downL_in ha j r)
    · exact downL_in ha j r

theorem ofC_append (c : Nat) (A B : List (Int × Int)) : ofC c (A ++ B) = ofC c A ++ ofC c B := List.filter_append ..
theorem ofC_le (c : Nat) (L : List (Int × Int)) : (ofC c L).length ≤ L.length := List.length_filter_le _ _
theorem ofC_mem {c : Nat} {L : List (Int × Int)} {p : Int × Int} (h : p ∈ ofC c L) : p ∈ L ∧ p.1 = (c : Int) := by
  obtain ⟨h1, h2⟩ := List.mem_filter.1 h
  exact ⟨h1, by simpa using h2⟩
theorem downL_le (m : List EntM) (a : Int × Int) (r : Nat) : (downL m a r).length ≤ 1 := by
  unfold downL
  split <;> simp
theorem fold_ofC {m : List EntM} {n d : ByteArray} {a : Int × Int} {r : Nat} : ∀ (l : List Int), (r : Int) ∉ l → ∀ L, ofC r (l.foldl (stepM m n d a) L) = ofC r L
  | [], _, _ => rfl
  | c :: l, h, L => by
    rw [List.foldl_cons, fold_ofC l (fun e => h (List.mem_cons_of_mem _ e))]
    unfold stepM
    cases ho : ownM m n d c with
    | none => rfl
    | some id =>
      simp only
      split
      · rfl
      · split
        · rw [ofC_append]
          have : ofC r [id] = [] := by
            unfold ofC
            rw [List.filter_cons_of_neg]
            · rfl
            · have := (own_spec ho).1
              simp only [beq_iff_eq]
              intro e
              exact h (by rw [← e, this]; exact List.mem_cons_self ..)
          rw [this, List.append_nil]
        · rfl
/-- A chain: the class, then those above. -/
theorem ch_cons {m : List EntM} (hw : WFm m) {r : Nat} (hr : r < m.length) : ∃ t, ch m r = (r : Int) :: t ∧ (r : Int) ∉ t := by
  have hh := ch_head hw hr
  have hn := ch_nodup hw hr
  cases hc : ch m r with
  | nil => rw [hc] at hh; cases hh
  | cons c t =>
    rw [hc] at hh hn
    have e : c = (r : Int) := Option.some.inj hh
    subst e
    exact ⟨t, rfl, (List.nodup_cons.1 hn).1⟩
/-- Of one class there is one at the most. -/
theorem down_top {m : List EntM} (hw : WFm m) (x : MethM) (a : Int × Int) {r : Nat} (hr : r < m.length) : (ofC r (downM m x a r)).length ≤ 1 := by
  unfold downM
  split
  · simp [ofC]
  split
  · obtain ⟨t, e, hn⟩ := ch_cons hw hr
    rw [e, List.reverse_cons, List.foldl_append, List.foldl_cons, List.foldl_nil]
    have hG := fold_ofC (m := m) (n := x.name) (d := x.desc) (a := a) t.reverse (fun h => hn (List.mem_reverse.1 h)) (downL m a r)
    generalize t.reverse.foldl (stepM m x.name x.desc a) (downL m a r) = G at hG
    have hl : (ofC r G).length ≤ 1 := by rw [hG]; exact Nat.le_trans (ofC_le _ _) (downL_le _ _ _)
    unfold stepM
    cases ho : ownM m x.name x.desc (r : Int) with
    | none => exact hl
    | some id =>
      simp only
      split
      · exact hl
      · next hc =>
        split
        · have h0 : ofC r G = [] := by
            rw [hG]
            cases hL : ofC r (downL m a r) with
            | nil => rfl
            | cons p q =>
              obtain ⟨h1, h2⟩ := ofC_mem (hL ▸ List.mem_cons_self .. : p ∈ ofC r (downL m a r))
              rw [downL_mem h1] at h2
              simp [h2] at hc
          rw [ofC_append, h0, List.nil_append]
          exact Nat.le_trans (ofC_le _ _) (by simp)
        · exact hl
  · exact Nat.le_trans (ofC_le _ _) (downL_le _ _ _)

def allR (m : List EntM) (a : Int × Int) : List (Int × Int) × Int := match methAt m a with
  | some x => (allM m x a, 0)
  | none => ([], 3)
theorem allR_zero {m : List EntM} {a : Int × Int} (h : (allR m a).2 = 0) : ∃ x, methAt m a = some x ∧ allR m a = (allM m x a, 0) := by
  unfold allR at *
  cases hx : methAt m a with
  | none => rw [hx] at h; cases h
  | some x => exact ⟨x, rfl, rfl⟩
/-- All, of the first k classes. -/
def allK (m : List EntM) (x : MethM) (a : Int × Int) (k : Nat) : List (Int × Int) := (List.range k).flatMap fun c => ofC c (downM m x a c)
theorem allK_succ (m : List EntM) (x : MethM) (a : Int × Int) (k : Nat) : allK m x a (k + 1) = allK m x a k ++ ofC k (downM m x a k) := by
  unfold allK
  rw [List.range_succ, List.flatMap_append]
  simp
theorem allK_len {m : List EntM} (hw : WFm m) (x : MethM) (a : Int × Int) : ∀ k, k ≤ m.length → (allK m x a k).length ≤ k
  | 0, _ => by simp [allK]
  | k + 1, h => by
    have h1 := allK_len hw x a k (by omega)
    have h2 := down_top hw x a (r := k) (by omega)
    rw [allK_succ, List.length_append]
    omega
end Go.Proofs.YtiiebakblkpkeaaGreatDoor.Hi
