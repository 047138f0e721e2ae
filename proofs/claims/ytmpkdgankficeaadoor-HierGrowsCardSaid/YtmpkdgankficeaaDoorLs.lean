/- Cutting a text at a byte, plainly. -/
import Derived.Lib.Split
set_option linter.unusedVariables false
set_option linter.unusedSimpArgs false
namespace Go.Proofs.YtmpkdgankficeaaDoor.Lf
open Go

/-- The pieces of a text between the bytes c. -/
def cutAt (c : UInt8) : List UInt8 → List (List UInt8)
  | [] => [[]]
  | x :: r => if x == c then [] :: cutAt c r else match cutAt c r with | [] => [[x]] | p :: ps => (x :: p) :: ps

theorem index_single (c x : UInt8) (r : List UInt8) : Lib.index (x :: r) [c] = if x == c then 0 else if Lib.index r [c] == -1 then -1 else Lib.index r [c] + 1 := by
  have hx : (c == x) = (x == c) := by rw [Bool.eq_iff_iff, beq_iff_eq, beq_iff_eq]; exact eq_comm
  simp only [Lib.index, List.isPrefixOf, Bool.and_true, hx]

theorem split_cut (c : UInt8) (l : List UInt8) : Lib.splitK [c] 0 (Lib.count l [c]) l = cutAt c l ∧ (cutAt c l).length = Lib.count l [c] + 1 := by
  induction l with
  | nil => exact ⟨by simp [Lib.count, Lib.countFrom, Lib.splitK, cutAt, Lib.index], by simp [Lib.count, Lib.countFrom, cutAt, Lib.index]⟩
  | cons x r ih =>
    obtain ⟨ih1, ih2⟩ := ih
    have hi := index_single c x r
    by_cases hx : x = c
    · subst hx
      simp only [beq_self_eq_true, if_true] at hi
      have hc : Lib.count (x :: r) [x] = 1 + Lib.count r [x] := by
        have := Lib.count_hit (s := x :: r) (sub := [x]) (i := 0) (by simp) (by simpa using hi)
        simpa using this
      rw [hc, Nat.add_comm 1]
      simp only [Lib.splitK, hi, cutAt, beq_self_eq_true, if_true]
      simp [ih1, ih2]
    · have hx' : (x == c) = false := by simpa using hx
      simp only [hx', Bool.false_eq_true, if_false] at hi
      by_cases hr : Lib.index r [c] = -1
      · simp only [hr, beq_self_eq_true, if_true] at hi
        have h0 : Lib.count r [c] = 0 := Lib.count_miss hr
        have h1 : Lib.count (x :: r) [c] = 0 := Lib.count_miss hi
        rw [h0] at ih1 ih2
        simp only [Lib.splitK] at ih1
        rw [h1]
        simp only [Lib.splitK, cutAt, hx', Bool.false_eq_true, if_false, ← ih1]
        simp
      · have hge := Lib.index_ge r [c]
        obtain ⟨i, hi'⟩ : ∃ i : Nat, Lib.index r [c] = i := ⟨(Lib.index r [c]).toNat, by omega⟩
        have hb : (Lib.index r [c] == -1) = false := by simpa using hr
        simp only [hb, Bool.false_eq_true, if_false] at hi
        rw [hi'] at hi
        have h1 := Lib.count_hit (s := r) (sub := [c]) (i := i) (by simp) hi'
        have h2 := Lib.count_hit (s := x :: r) (sub := [c]) (i := i + 1) (by simp) (by rw [hi]; rfl)
        have h3 : Lib.count (x :: r) [c] = Lib.count r [c] := by
          rw [h1, h2]
          simp [Nat.add_assoc]
        rw [h3, h1, Nat.add_comm 1]
        rw [h1, Nat.add_comm 1] at ih1 ih2
        have e1 : (Lib.index (x :: r) [c] == -1) = false := by rw [hi]; simp; omega
        simp only [Lib.splitK, hb, e1, Bool.false_eq_true, if_false] at ih1 ⊢
        rw [hi'] at ih1
        rw [hi]
        simp only [cutAt, hx', Bool.false_eq_true, if_false, ← ih1]
        have t1 : ((i : Int) + 1).toNat = i + 1 := by omega
        simp only [List.length_singleton, t1, Int.toNat_natCast, Nat.add_zero, List.take_succ_cons] at ih1 ⊢
        refine ⟨by simp [Nat.add_assoc], ?_⟩
        rw [← ih1] at ih2
        simpa using ih2

theorem cutAt_le (c : UInt8) (l : List UInt8) : ∀ p ∈ cutAt c l, p.length ≤ l.length := by
  induction l with
  | nil => simp [cutAt]
  | cons x r ih =>
    unfold cutAt
    split
    · intro p hp
      rcases List.mem_cons.1 hp with rfl | hp
      · simp
      · have := ih p hp; simp; omega
    · cases h : cutAt c r with
      | nil => simp
      | cons q qs =>
        rw [h] at ih
        intro p hp
        rcases List.mem_cons.1 hp with rfl | hp
        · have := ih q (by simp); simp; omega
        · have := ih p (by simp [hp]); simp; omega
end Go.Proofs.YtmpkdgankficeaaDoor.Lf
