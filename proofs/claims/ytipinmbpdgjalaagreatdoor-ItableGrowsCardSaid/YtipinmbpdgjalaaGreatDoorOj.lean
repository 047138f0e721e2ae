/- Overriding: what a class that arrives later leaves of it (plain). -/
import Derived.Test.YtipinmbpdgjalaaGreatDoorOS
import Derived.Test.YtipinmbpdgjalaaGreatDoorMG
set_option maxRecDepth 100000
set_option maxHeartbeats 1000000
set_option linter.unusedVariables false
set_option linter.unusedSimpArgs false
namespace Go.Proofs.YtipinmbpdgjalaaGreatDoor.Hi
open Go.RowKit Bs

section
variable {m : List EntM} {e : EntM}
theorem findO_app {k : Nat} (hk : k < m.length) (n d : ByteArray) : findH (m ++ [e]) (k : Int) n d = findH m (k : Int) n d := by
  unfold findH
  rw [entAt_app hk]
theorem ifaceO_app {k : Nat} (hk : k < m.length) : isIfaceM (m ++ [e]) (k : Int) = isIfaceM m (k : Int) := by
  unfold isIfaceM
  rw [entAt_app hk]
theorem methAt_app {k : Nat} (hk : k < m.length) (b : Int) : methAt (m ++ [e]) ((k : Int), b) = methAt m ((k : Int), b) := by
  unfold methAt
  simp only [entAt_app hk]
theorem own_app {k : Nat} (hk : k < m.length) (n d : ByteArray) : ownM (m ++ [e]) n d (k : Int) = ownM m n d (k : Int) := by
  unfold ownM
  rw [findO_app hk, ifaceO_app hk, methAt_app hk]
theorem sameO_app {a b : Nat} (ha : a < m.length) (hb : b < m.length) : sameM (m ++ [e]) (a : Int) (b : Int) = sameM m (a : Int) (b : Int) := by
  unfold sameM
  rw [entAt_app ha, entAt_app hb]
theorem seen_app {c b : Nat} (hc : c < m.length) (hb : b < m.length) (j : Int) : seenM (m ++ [e]) (c : Int) ((b : Int), j) = seenM m (c : Int) ((b : Int), j) := by
  unfold seenM flO
  simp only [ifaceO_app hb, methAt_app hb, sameO_app hc hb]
theorem step_app (hw : WFm m) {n d : ByteArray} {a : Nat} (ha : a < m.length) (j : Int) {L : List (Int × Int)} {c : Nat} (hc : c < m.length) (hL : InR m L) : stepM (m ++ [e]) n d ((a : Int), j) L (c : Int) = stepM m n d ((a : Int), j) L (c : Int) := by
  have h : L.any (seenM (m ++ [e]) (c : Int)) = L.any (seenM m (c : Int)) := any_same fun p hp => by
    obtain ⟨k, h1, h2⟩ := hL p hp
    obtain ⟨p1, p2⟩ := p
    simp only at h1
    subst h1
    exact seen_app hc h2 p2
  unfold stepM
  rw [own_app hc, h]
  simp only [ext_app hw hc ha]
theorem fold_app (hw : WFm m) {n d : ByteArray} {a : Nat} (ha : a < m.length) (j : Int) : ∀ (l : List Int), (∀ x ∈ l, ∃ k : Nat, x = k ∧ k < m.length) → ∀ {L : List (Int × Int)}, InR m L → l.foldl (stepM (m ++ [e]) n d ((a : Int), j)) L = l.foldl (stepM m n d ((a : Int), j)) L
  | [], _, _, _ => rfl
  | c :: l, hl, L, h => by
    obtain ⟨k, rfl, hk⟩ := hl c (List.mem_cons_self ..)
    rw [List.foldl_cons, List.foldl_cons, step_app hw ha j hk h]
    exact fold_app hw ha j l (fun y hy => hl y (List.mem_cons_of_mem _ hy)) (step_in hk h)
theorem downL_app (hw : WFm m) {a : Nat} (ha : a < m.length) (j : Int) {r : Nat} (hr : r < m.length) : downL (m ++ [e]) ((a : Int), j) r = downL m ((a : Int), j) r := by
  unfold downL
  rw [ch_app hw hr, ifaceO_app ha]
theorem down_app (hw : WFm m) {x : MethM} {a : Nat} (ha : a < m.length) (j : Int) {r : Nat} (hr : r < m.length) : downM (m ++ [e]) x ((a : Int), j) r = downM m x ((a : Int), j) r := by
  unfold downM
  rw [ch_app hw hr, downL_app hw ha j hr, fold_app hw ha j _ (ch_nat hw hr) (downL_in ha j r)]
theorem ov_app (hw : WFm m) {x : MethM} {a c : Nat} (ha : a < m.length) (hc : c < m.length) (i j : Int) : ovM (m ++ [e]) ((c : Int), i) ((a : Int), j) x = ovM m ((c : Int), i) ((a : Int), j) x := by
  unfold ovM
  rw [show (((c : Int), i) : Int × Int).1.toNat = c from Int.toNat_natCast c, down_app hw ha j hc]
theorem all_app (hw : WFm m) {x : MethM} {a : Nat} (ha : a < m.length) (j : Int) : allM (m ++ [e]) x ((a : Int), j) = allM m x ((a : Int), j) ++ ofC m.length (downM (m ++ [e]) x ((a : Int), j) m.length) := by
  unfold allM
  rw [show (m ++ [e]).length = m.length + 1 by simp, List.range_succ, List.flatMap_append]
  congr 1
  · have key : ∀ l : List Nat, (∀ c ∈ l, c < m.length) → l.flatMap (fun c => ofC c (downM (m ++ [e]) x ((a : Int), j) c)) = l.flatMap (fun c => ofC c (downM m x ((a : Int), j) c)) := fun l => by
      induction l with
      | nil => intro _; rfl
      | cons c r ih =>
        intro hl
        rw [List.flatMap_cons, List.flatMap_cons, down_app hw ha j (hl c (List.mem_cons_self ..)), ih fun y hy => hl y (List.mem_cons_of_mem _ hy)]
    exact key _ fun c hc => List.mem_range.1 hc
  · simp
end

/-- What arrives later leaves what overrides what, and lengthens the list of all by one at the most, of the new class. -/
theorem ov_later {m : List EntM} (hw : WFm m) (cl : ClsM) (hwd : WFm (defM m cl)) {c a : Int × Int} (h : (ovR m c a).2 = 0) : ovR (defM m cl) c a = ovR m c a ∧ ∃ t, allR (defM m cl) a = ((allR m a).1 ++ t, 0) ∧ (allR m a).2 = 0 ∧ t.length ≤ 1 ∧ ∀ p ∈ t, p.1 = (m.length : Int) := by
  unfold ovR at h
  cases hx : methAt m a with
  | none => rw [hx] at h; cases h
  | some x =>
    cases hy : methAt m c with
    | none => rw [hx, hy] at h; cases h
    | some y =>
      rcases defM_cases m cl with ⟨_, e1, _⟩ | ⟨_, e1, _⟩
      · rw [e1]
        have hw' : WFm (m ++ [entOf m cl]) := by rw [← e1]; exact hwd
        obtain ⟨i, j, hi, _, rfl, _⟩ := methAt_some hx
        obtain ⟨k, l, hk, _, rfl, _⟩ := methAt_some hy
        refine ⟨?_, ofC m.length (downM (m ++ [entOf m cl]) x ((i : Int), (j : Int)) m.length), ?_, ?_, down_top hw' _ _ (by simp), fun p hp => (ofC_mem hp).2⟩
        · unfold ovR
          rw [methAt_app hi, methAt_app hk, hx, hy]
          simp only
          rw [ov_app hw hi hk]
        · unfold allR
          rw [methAt_app hi, hx]
          simp only
          rw [all_app hw hi]
        · unfold allR
          rw [hx]
      · rw [e1]
        exact ⟨rfl, [], by unfold allR; rw [hx]; simp, by unfold allR; rw [hx], by simp, fun p hp => by cases hp⟩
end Go.Proofs.YtipinmbpdgjalaaGreatDoor.Hi
