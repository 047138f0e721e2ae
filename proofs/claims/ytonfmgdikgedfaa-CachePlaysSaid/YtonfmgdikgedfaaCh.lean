/- Caches: do rows of ints have memory of their own? The laws on such rows. -/
import Derived.Test.YtonfmgdikgedfaaCd
import Derived.Deep.DeepAppendRoom
set_option maxRecDepth 100000
set_option maxHeartbeats 1000000
set_option linter.unusedVariables false
set_option linter.unusedSimpArgs false
namespace Go.Proofs.Ytonfmgdikgedfaa.Cm
open Go.RowKit Bs Go.Lib

theorem Num.own_eq {w : World} {a : Option Addr} {n c : Nat} {L : List Int} (h : Num w (.slice a n c) L) {g : Nat} (hg : (Value.slice a n c).ownBlock = some g) :
    ∃ cur, a = some ⟨g, 0, none⟩ ∧ n = L.length ∧ w.heap[g]? = some (.cells cur 3 (0, 0)) ∧ L.length ≤ c ∧ c ≤ maxLen ∧ cur.size = c ∧ cur.toList.take L.length = L.map (Value.int .i64) := by
  rcases h.2 with ⟨e, _⟩ | ⟨q, cap, cur, e, _, h2, h3, h4, h5, h6⟩
  · injection e with e1 e2 e3
    subst e1
    cases hg
  · injection e with e1 e2 e3
    subst e1; subst e2; subst e3
    obtain rfl : q = g := by simpa [Value.ownBlock] using hg
    exact ⟨cur, rfl, rfl, h2, h3, h4, by simpa using h5, by simpa using h6⟩
/-- A row that begins another one of the same block. -/
theorem Num.begins {w w' : World} {u v : Value} {L M : List Int} {g : Nat} (hu : Num w u M) (hug : u.ownBlock = some g) (hv : Num w v L) (hvg : v.ownBlock = some g) {v' : Value} {L' : List Int} (hv' : Num w' v' L')
    (e : ∃ n c, v = .slice (some ⟨g, 0, none⟩) n c ∧ ∃ n', v' = .slice (some ⟨g, 0, none⟩) n' c) (hp : M <+: L') : Num w' u M := by
  obtain ⟨n, c, rfl, n', rfl⟩ := e
  obtain ⟨a, c1, rfl⟩ := hu.slice
  obtain ⟨cu, rfl, _, h1, h2, h3, h4, h5⟩ := hu.own_eq hug
  obtain ⟨cv, _, _, g1, g2, g3, g4, g5⟩ := hv.own_eq hvg
  obtain ⟨cw, _, hn', k1, k2, k3, k4, k5⟩ := hv'.own_eq (g := g) rfl
  have hc : c1 = c := by
    rw [h1] at g1
    injection g1 with g1
    injection g1 with g1
    rw [← h4, ← g4, g1]
  subst hc
  refine ⟨by simp, .inr ⟨g, c1, cw, rfl, Nat.zero_le _, k1, h2, h3, by simpa using k4, ?_⟩⟩
  obtain ⟨R, rfl⟩ := hp
  rw [Nat.mul_one, show cw.toList.take M.length = (cw.toList.take (M ++ R).length).take M.length by rw [List.take_take, List.length_append, Nat.min_eq_left (by omega)], k5, List.map_append]
  exact List.take_left' (by simp)

theorem run_app1k {w : World} {v : Value} {L : List Int} {x : Int} (h : Num w v L) {q : Nat} (hq : w.cell? ⟨q, 0, none⟩ = some (.int .i64 x)) (hl : L.length ≤ 100000) (ty : TypeId) :
    ∃ v' w', (Builtin.append_ #[31, 31] ty #[v, .slice (some ⟨q, 0, none⟩) 1 1]).run Try.prog w = .ok v' w' ∧ Num w' v' (L ++ [x]) ∧ w.grownBy w' v.ownBlock ∧ (v'.ownBlock = v.ownBlock ∨ v'.ownBlock = some w.heap.size) ∧
      ∀ u M, Num w u M → (∀ k, u.ownBlock = some k → v.ownBlock = some k → M <+: L) → Num w' u M := by
  obtain ⟨v', w', r, n', g', o'⟩ := run_app1 h hq hl ty
  refine ⟨v', w', r, n', g', o', fun u M hu hp => ?_⟩
  obtain ⟨a, c, rfl⟩ := h.slice
  cases hb : (Value.slice a L.length c).ownBlock with
  | none => exact hu.same fun k hk => g'.block k (hu.lt hk) (by rw [hb]; simp)
  | some g =>
    obtain ⟨cur, rfl, _, h1, h2, h3, h4, h5⟩ := h.own_eq hb
    obtain ⟨i0, hi, hz0, hz1, hz2⟩ := info_parts info_intC
    have hnews : ∀ (w0 : World), w0.cell? ⟨q, 0, none⟩ = some (.int .i64 x) → ∀ j u, [Value.int .i64 x][j]? = some u → w0.cell? ((⟨q, 0, none⟩ : Addr).add j) = some u := fun w0 h0 j u hj => by
      rcases j with _ | j
      · obtain rfl : Value.int .i64 x = u := by simpa using hj
        exact h0
      · simp at hj
    by_cases hroom : L.length + 1 ≤ c
    · obtain ⟨w2, r2, _, _⟩ := run_append_own_spare (P := Try.prog) w 0 31 ty 3 i0 1 Try.underlying31 hi hz1 g L.length c _ h ⟨q, 0, none⟩ 1 1 [.int .i64 x] rfl (hnews w hq) (by intro u hu; simp at hu; subst hu; rfl) hroom
      rw [r2] at r
      injection r with r3 r4
      subst r3; subst r4
      cases hk : u.ownBlock with
      | none => exact hu.same fun k hk' => by rw [hk] at hk'; cases hk'
      | some k =>
        by_cases hkg : k = g
        · subst hkg
          exact hu.begins hk h rfl n' ⟨_, _, rfl, _, rfl⟩ ((hp k hk rfl).trans (List.prefix_append _ _))
        · exact hu.same fun k' hk' => g'.block k' (hu.lt hk') fun e => by
            rw [hk] at hk'
            have e1 := Option.some.inj hk'
            have e2 : k' = g := by simpa [Value.ownBlock] using e
            exact hkg (e1.trans e2)
    · have r2 := run_append_grow (P := Try.prog) w 31 ty 3 i0 _ Try.underlying31 hi hz0 ⟨g, 0, none⟩ L.length c (L.map (Value.int .i64)) (by rw [hz1]; simp) (World.ownsRow.cells (g := g) h rfl) ⟨q, 0, none⟩ 1 1 [.int .i64 x] (by rw [hz1]; rfl) (hnews w hq) (by omega) (by omega) (growslice_fits (by omega) (by rw [hz2]; omega))
      rw [r2] at r
      injection r with r3 r4
      subst r4
      exact hu.same fun k hk => heap_alloc_old w.drew _ (hu.lt hk)
theorem Num.set {w : World} {a : Option Addr} {n c : Nat} {L : List Int} (h : Num w (.slice a n c) L) {g j : Nat} (hg : a = some ⟨g, 0, none⟩) (x : Int) : Num (w.setCell ⟨g, j, none⟩ (.int .i64 x)) (.slice a n c) (L.set j x) := by
  subst hg
  obtain ⟨cur, _, rfl, h1, h2, h3, h4, h5⟩ := h.own_eq (g := g) rfl
  have hh : (w.setCell ⟨g, j, none⟩ (.int .i64 x)).heap[g]? = some (.cells (cur.setIfInBounds j (.int .i64 x)) 3 (0, 0)) := by simp [World.setCell, Array.getElem?_modify, h1]
  refine ⟨by simp, .inr ⟨g, c, _, by rw [List.length_set], Nat.zero_le _, hh, by rw [List.length_set]; exact h2, h3, by simpa using h4, ?_⟩⟩
  rw [Nat.mul_one, List.length_set, Array.toList_setIfInBounds, List.take_set, h5, List.map_set]
theorem Num.thaw {w : World} {a : Option Addr} {n c : Nat} {L : List Int} (h : Num w (.slice a n c) L) {g : Nat} (hg : a = some ⟨g, 0, none⟩) (j : Nat) : w.frozen? ⟨g, j, none⟩ = false := by
  subst hg
  obtain ⟨cur, _, rfl, h1, _⟩ := h.own_eq (g := g) rfl
  exact frozen_of_row _ _ j _ _ h1
end Go.Proofs.Ytonfmgdikgedfaa.Cm
