/- The plain law: what closures are made of. -/
import Derived.Test.YtmpkdgankficeaaDoorXb
set_option maxRecDepth 100000
set_option maxHeartbeats 1000000
set_option linter.unusedVariables false
set_option linter.unusedSimpArgs false
namespace Go.Proofs.YtmpkdgankficeaaDoor.Hi
open Go.RowKit Bs

/-- Is it of the closure ahead, or does one of the first interfaces extend it? -/
def whyM (m : List EntM) (b0 : Bool) (ifs : List ByteArray) (x : Int) : Bool := b0 || ifs.any fun s => extM m (byNameM m s).1 x
theorem whyM_snoc (m : List EntM) (b0 : Bool) (ifs : List ByteArray) (s : ByteArray) (x : Int) : whyM m b0 (ifs ++ [s]) x = (whyM m b0 ifs x || extM m (byNameM m s).1 x) := by
  unfold whyM
  simp [List.any_append, Bool.or_assoc]

theorem nodup_ne {l : List Int} (h : l.Nodup) {i j : Nat} (hij : i < j) {x y : Int} (hx : l[i]? = some x) (hy : l[j]? = some y) : x ≠ y := by
  obtain ⟨hi, rfl⟩ := List.getElem?_eq_some_iff.1 hx
  obtain ⟨hj, rfl⟩ := List.getElem?_eq_some_iff.1 hy
  exact List.pairwise_iff_getElem.1 h i j hi hj hij
theorem clo_zero {m : List EntM} (ho : OrdM m) : clo m 0 = [] := by
  rw [clo_eq ho.root.1]
  exact ho.root.2.2.1
theorem ifs_zero {m : List EntM} (ho : OrdM m) (h : 0 < m.length) : m[0].c.ifaces = [] := by
  have := ho.root.2.2.2
  rwa [clsAt_at ho.root.1] at this
theorem ifs_own {m : List EntM} (ho : OrdM m) {a : Nat} (h : a < m.length) {s : ByteArray} (hs : s ∈ m[a].c.ifaces) : ∃ y : Nat, y < m.length ∧ byNameM m s = ((y : Int), 0) ∧ (y : Int) ∈ clo m a := by
  obtain ⟨y, e1, e2⟩ := ho.own a h s hs
  refine ⟨y, nameIx_lt e1, ?_, by rw [clo_at h]; exact e2⟩
  unfold byNameM; rw [e1]

section
variable {m : List EntM} (hw : WFm m) (ho : OrdM m)
include hw ho

theorem super_zero : superM m ((0 : Nat) : Int) = (0, 6) := by
  unfold superM
  rw [entAt_nat ho.root.1]
  simp only
  rw [if_pos (((hw.above 0 ho.root.1).2.2).2 rfl)]
theorem clo_pre {a : Nat} (h : a < m.length) (h0 : 0 < a) : ∃ p : Nat, p < m.length ∧ superM m a = ((p : Int), 0) ∧ ∃ r, clo m a = clo m p ++ r := by
  obtain ⟨p, e1, e2, hp, _⟩ := par hw h h0
  obtain ⟨r, hr⟩ := ho.pre a h h0
  refine ⟨p, hp, ?_, r, ?_⟩
  · unfold superM
    rw [entAt_nat h]
    simp only
    rw [if_neg (by rw [e2]; omega), e2]
  · rw [clo_at h, hr, e2, ← clo_eq hp]
theorem clo_apart {a : Nat} (h : a < m.length) {i j : Nat} (hij : i < j) {x y : Int} (hx : (clo m a)[i]? = some x) (hy : (clo m a)[j]? = some y) : x ≠ y ∧ extM m x y = false := by
  obtain ⟨hi, ex⟩ := List.getElem?_eq_some_iff.1 hx
  obtain ⟨hj, ey⟩ := List.getElem?_eq_some_iff.1 hy
  have hnd : (clo m a).Nodup := by rw [clo_at h]; exact (hw.closed a h).1
  have hne : x ≠ y := nodup_ne hnd hij hx hy
  refine ⟨hne, ?_⟩
  obtain ⟨kx, e1, e2, e3⟩ := clo_mem hw ho h x (List.mem_of_getElem? hx)
  obtain ⟨ky, f1, f2, f3⟩ := clo_mem hw ho h y (List.mem_of_getElem? hy)
  cases hext : extM m x y with
  | false => rfl
  | true =>
    exfalso
    subst e1; subst f1
    rcases (ext_iff hw ho (by omega) (by omega)).1 hext with hm | hm
    · rcases ch_ifc hw ho (by omega) e3 _ hm with e | e
      · exact hne e.symm
      · have : ky = 0 := by omega
        subst this
        rw [ho.root.2.1] at f3
        cases f3
    · rw [clo_eq (by omega)] at hm
      have hord := ho.ord a h i (by rw [← clo_at h]; exact hi)
      have hx' : m[a].closure[i]'(by rw [← clo_at h]; exact hi) = (kx : Int) := by
        have := ex
        simp only [clo_at h] at this
        exact this
      have := hord (ky : Int) (by rw [hx']; exact hm)
      rw [← clo_at h] at this
      obtain ⟨k, hk, e⟩ := List.getElem_of_mem this
      rw [List.getElem_take] at e
      simp only [List.length_take] at hk
      exact nodup_ne hnd (show k < j by omega) (List.getElem?_eq_some_iff.2 ⟨by omega, e⟩) hy rfl
theorem clo_why {a p : Nat} (h : a < m.length) (h0 : 0 < a) (hp : superM m a = ((p : Int), 0)) {x : Int} (hx : x ∈ clo m a) : whyM m ((clo m p).contains x) m[a].c.ifaces x = true := by
  obtain ⟨p', e1, e2, hp', _⟩ := par hw h h0
  have hpp : p' = p := by
    unfold superM at hp
    rw [entAt_nat h] at hp
    simp only at hp
    rw [if_neg (by rw [e2]; omega), e2] at hp
    injection hp with hp _
    omega
  subst hpp
  unfold whyM
  rw [Bool.or_eq_true]
  have hx' := hx
  rw [clo_at h] at hx'
  rcases ho.why a h h0 x hx' with hm | ⟨s, hs, y, e3, e4⟩
  · left
    rw [e2, ← clo_eq hp'] at hm
    simpa using hm
  · right
    rw [List.any_eq_true]
    refine ⟨s, hs, ?_⟩
    have hb : (byNameM m s).1 = (y : Int) := by unfold byNameM; rw [e3]
    rw [hb]
    have hy := nameIx_lt e3
    obtain ⟨kx, f1, f2, f3⟩ := clo_mem hw ho h x hx
    subst f1
    refine (ext_iff hw ho hy (by omega)).2 ?_
    rcases e4 with e4 | e4
    · left
      have : kx = y := by omega
      subst this
      exact List.mem_of_getElem? (ch_head hw hy)
    · right
      rw [clo_eq hy]; exact e4
end
end Go.Proofs.YtmpkdgankficeaaDoor.Hi
