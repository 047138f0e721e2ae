/- Virtual tables: what they are (plain). -/
import Derived.Test.YtipinmbpdgjalaaGreatDoorWA
set_option maxRecDepth 100000
set_option maxHeartbeats 1000000
set_option linter.unusedVariables false
set_option linter.unusedSimpArgs false
namespace Go.Proofs.YtipinmbpdgjalaaGreatDoor.Hi
open Go.RowKit Bs

abbrev Slt := (Int × Int) × (Int × Int)
/-- May a method have a slot? -/
def virX (y : MethM) : Bool := (bits .and .i64 y.flags 10 == 0) && !(y.name.toList == initN.toList)
def virB (m : List EntM) (p : Int × Int) : Bool := !isIfaceM m p.1 && (match methAt m p with | some y => virX y | none => false)
def idsC (m : List EntM) (c : Nat) : List (Int × Int) := (List.range (clsAt m c).meths.length).map fun (i : Nat) => (((c : Nat) : Int), (i : Int))
/-- The virtual methods of a class. -/
def ownV (m : List EntM) (c : Nat) : List (Int × Int) := (idsC m c).filter (virB m)
def alikeB (m : List EntM) (a b : Int × Int) : Bool := match methAt m a, methAt m b with
  | some x, some y => (x.name.toList == y.name.toList) && (x.desc.toList == y.desc.toList)
  | _, _ => false
/-- Does a method take the slots of a Root? -/
def hitB (m : List EntM) (q a : Int × Int) : Bool := alikeB m q a && (ovR m q a).1
/-- Public or protected. -/
def pubB (m : List EntM) (q : Int × Int) : Bool := match methAt m q with | some y => bits .and .i64 y.flags 5 != 0 | none => false
def setS (m : List EntM) (q : Int × Int) (A T : List Slt) : List Slt := (List.zipWith (fun a s => if hitB m q a.1 = true then (s.1, q) else s) A T) ++ T.drop A.length
def newB (m : List EntM) (A : List Slt) (q : Int × Int) : Bool := !(A.any fun a => hitB m q a.1) || !pubB m q
def stepV (m : List EntM) (A T : List Slt) (q : Int × Int) : List Slt := if newB m A q = true then setS m q A T ++ [(q, q)] else setS m q A T
def growL (m : List EntM) (A : List Slt) (l : List (Int × Int)) : List Slt := l.foldl (stepV m A) A
/-- The table of a class, out of its superclass's. -/
def growM (m : List EntM) (c : Nat) (A : List Slt) : List Slt := growL m A (ownV m c)
def tabL (m : List EntM) (l : List Int) : List Slt := l.foldl (fun T c => growM m c.toNat T) []
/-- The table of a class. -/
def tabM (m : List EntM) (r : Nat) : List Slt := tabL m (ch m r).reverse

/-! ### What grows -/

def lastHit (m : List EntM) (l : List (Int × Int)) (a : Slt) : Int × Int := ((l.filter fun q => hitB m q a.1).getLast?).getD a.2
theorem zip_map {A : List Slt} (f : Slt → Slt) (g : Slt → Slt → Slt) : List.zipWith g A (A.map f) = A.map fun a => g a (f a) := by
  induction A with
  | nil => rfl
  | cons a l ih => rw [List.map_cons, List.zipWith_cons_cons, ih, List.map_cons]
theorem zip_left (g : Slt → Slt → Slt) : ∀ (A X Y : List Slt), X.length = A.length → List.zipWith g A (X ++ Y) = List.zipWith g A X
  | [], [], Y, _ => by cases Y <;> rfl
  | [], x :: X, Y, h => by cases h
  | a :: A, [], Y, h => by cases h
  | a :: A, x :: X, Y, h => by
    rw [List.cons_append, List.zipWith_cons_cons, List.zipWith_cons_cons, zip_left g A X Y (by simpa using h)]
theorem setS_app {m : List EntM} {q : Int × Int} {A X Y : List Slt} (h : X.length = A.length) : setS m q A (X ++ Y) = setS m q A X ++ Y := by
  unfold setS
  rw [List.drop_append_of_le_length (by omega), List.drop_of_length_le (l := X) (by omega), List.nil_append, List.append_nil, zip_left _ A X Y h]
/-- A table after a list of a class's methods. -/
def shapeV (m : List EntM) (A : List Slt) (l : List (Int × Int)) : List Slt := (A.map fun a => (a.1, lastHit m l a)) ++ (l.filter (newB m A)).map fun q => (q, q)
theorem step_shape (m : List EntM) (A : List Slt) (l : List (Int × Int)) (q : Int × Int) : stepV m A (shapeV m A l) q = shapeV m A (l ++ [q]) := by
  have hs : setS m q A (shapeV m A l) = (A.map fun a => (a.1, lastHit m (l ++ [q]) a)) ++ (l.filter (newB m A)).map fun q => (q, q) := by
    unfold shapeV
    rw [setS_app (by simp)]
    congr 1
    unfold setS
    rw [List.drop_of_length_le (by simp), List.append_nil, zip_map]
    refine List.map_congr_left fun a _ => ?_
    unfold lastHit
    rw [List.filter_append]
    cases hq : hitB m q a.1 with
    | true => simp [hq]
    | false => simp [hq]
  unfold stepV
  rw [hs]
  unfold shapeV
  rw [List.filter_append]
  cases hn : newB m A q with
  | true => simp [hn]
  | false => simp [hn]
theorem grow_from (m : List EntM) (A : List Slt) : ∀ (l l0 : List (Int × Int)), l.foldl (stepV m A) (shapeV m A l0) = shapeV m A (l0 ++ l)
  | [], l0 => by rw [List.append_nil]; rfl
  | q :: l, l0 => by
    rw [List.foldl_cons, step_shape, grow_from m A l (l0 ++ [q]), List.append_assoc]
    rfl
theorem growL_eq (m : List EntM) (A : List Slt) (l : List (Int × Int)) : growL m A l = shapeV m A l := by
  have h0 : shapeV m A [] = A := by
    unfold shapeV lastHit
    simp
  have := grow_from m A l []
  rw [h0, List.nil_append] at this
  exact this
theorem grow_eq (m : List EntM) (c : Nat) (A : List Slt) : growM m c A = shapeV m A (ownV m c) := growL_eq m A _

/-! ### Tables along a chain -/

section
variable {m : List EntM} (hw : WFm m) (ho : OrdM m)
include hw
theorem tab_zero (h : 0 < m.length) : tabM m 0 = growM m 0 [] := by
  unfold tabM tabL
  rw [ch_zero hw h]
  rfl
theorem tab_step {a p : Nat} (h : a < m.length) (h0 : 0 < a) (hp : m[a].above = p) (hpl : p < m.length) : tabM m a = growM m a (tabM m p) := by
  unfold tabM tabL
  rw [ch_step hw h h0 hp hpl, List.reverse_cons, List.foldl_append]
  rfl
end

/-- Of a class's own methods. -/
theorem mem_ids {m : List EntM} {c : Nat} {q : Int × Int} (hc : c < m.length) : q ∈ idsC m c ↔ q.1 = (c : Int) ∧ ∃ y, methAt m q = some y := by
  unfold idsC
  rw [clsAt_at hc]
  constructor
  · intro h
    obtain ⟨i, hi, rfl⟩ := List.mem_map.1 h
    exact ⟨rfl, _, methAt_at hc (List.mem_range.1 hi)⟩
  · rintro ⟨h1, y, hy⟩
    obtain ⟨i, j, hi, hj, rfl, _⟩ := methAt_some hy
    obtain rfl : i = c := by have h1' : (i : Int) = (c : Int) := h1; omega
    exact List.mem_map.2 ⟨j, List.mem_range.2 hj, rfl⟩
theorem mem_own {m : List EntM} {c : Nat} {q : Int × Int} (hc : c < m.length) : q ∈ ownV m c ↔ q.1 = (c : Int) ∧ isIfaceM m (c : Int) = false ∧ ∃ y, methAt m q = some y ∧ virX y = true := by
  unfold ownV
  rw [List.mem_filter, mem_ids hc]
  constructor
  · rintro ⟨⟨h1, y, hy⟩, hv⟩
    unfold virB at hv
    rw [hy, h1] at hv
    simp only [Bool.and_eq_true, Bool.not_eq_true'] at hv
    exact ⟨h1, hv.1, y, hy, hv.2⟩
  · rintro ⟨h1, hi, y, hy, hv⟩
    refine ⟨⟨h1, y, hy⟩, ?_⟩
    unfold virB
    rw [hy, h1, hi]
    show (!false && virX y) = true
    rw [hv]
    rfl
theorem vir_spec {y : MethM} (h : virX y = true) : bits .and .i64 y.flags 8 = 0 ∧ bits .and .i64 y.flags 2 = 0 ∧ (y.name.toList == initN.toList) = false ∧ freeX y = true ∧ privF y.flags = false := by
  unfold virX at h
  simp only [Bool.and_eq_true, beq_iff_eq, Bool.not_eq_true'] at h
  have h8 := mask_zeroO (a := 10) (b := 8) (by decide) h.1
  have h2 := mask_zeroO (a := 10) (b := 2) (by decide) h.1
  refine ⟨h8, h2, h.2, ?_, ?_⟩
  · unfold freeX statF
    rw [h8, h.2]
    rfl
  · unfold privF
    rw [h2]
    rfl
theorem hit_spec {m : List EntM} {q a : Int × Int} (h : hitB m q a = true) : ∃ x y, methAt m q = some y ∧ methAt m a = some x ∧ y.name = x.name ∧ y.desc = x.desc ∧ ovR m q a = (true, 0) := by
  unfold hitB at h
  simp only [Bool.and_eq_true] at h
  obtain ⟨h1, h2⟩ := h
  unfold alikeB at h1
  cases hy : methAt m q with
  | none => rw [hy] at h1; cases h1
  | some y =>
    cases hx : methAt m a with
    | none => rw [hy, hx] at h1; cases h1
    | some x =>
      rw [hy, hx] at h1
      simp only [Bool.and_eq_true, str_eq, decide_eq_true_eq] at h1
      refine ⟨x, y, rfl, rfl, h1.1, h1.2, ?_⟩
      rw [ovR_ok hx hy] at h2 ⊢
      have h2' : ovM m q a x = true := h2
      rw [h2']
end Go.Proofs.YtipinmbpdgjalaaGreatDoor.Hi
