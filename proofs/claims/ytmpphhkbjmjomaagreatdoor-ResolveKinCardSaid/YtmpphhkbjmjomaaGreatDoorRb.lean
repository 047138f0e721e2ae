/- Looking a method up: what the answer is (plain). -/
import Derived.Test.YtmpphhkbjmjomaaGreatDoorKh
set_option maxRecDepth 100000
set_option maxHeartbeats 1000000
set_option linter.unusedVariables false
set_option linter.unusedSimpArgs false
namespace Go.Proofs.YtmpphhkbjmjomaaGreatDoor.Hi
open Go.RowKit Bs

/-- The first candidate. -/
def someM (m : List EntM) (c : Nat) (n d : ByteArray) : (Int × Int) × Int := match candM m c n d with
  | [] => ((0, 0), 6)
  | p :: _ => (p, 0)
/-- The first class of a chain that has the method. -/
def firstM (m : List EntM) (n d : ByteArray) : List Int → (Int × Int) × Int
  | [] => ((0, 0), 6)
  | k :: r => if (findH m k n d).2 = 0 then ((k, (findH m k n d).1), 0) else firstM m n d r
def chainR (m : List EntM) (c : Nat) (n d : ByteArray) : (Int × Int) × Int := firstM m n d (ch m c)
def ownR (m : List EntM) (c : Nat) (n d : ByteArray) : (Int × Int) × Int := (((c : Int), (findH m c n d).1), (findH m c n d).2)
/-- The first road that leads somewhere. -/
def firstR : List ((Int × Int) × Int) → (Int × Int) × Int
  | [] => ((0, 0), 21)
  | x :: r => if x.2 = 0 then (x.1, 0) else firstR r
def lookupM (m : List EntM) (c : Nat) (n d : ByteArray) : (Int × Int) × Int := firstR [chainR m c n d, oneM m c n d, someM m c n d]

theorem firstM_none {m : List EntM} {n d : ByteArray} : ∀ {l : List Int}, (∀ k ∈ l, (findH m k n d).2 ≠ 0) → firstM m n d l = ((0, 0), 6)
  | [], _ => rfl
  | k :: r, h => by
    unfold firstM
    rw [if_neg (h k (List.mem_cons_self ..))]
    exact firstM_none fun x hx => h x (List.mem_cons_of_mem _ hx)
theorem firstM_at {m : List EntM} {n d : ByteArray} : ∀ {l : List Int} {i : Nat} (hi : i < l.length), (∀ j (hj : j < l.length), j < i → (findH m l[j] n d).2 ≠ 0) → (findH m l[i] n d).2 = 0 → firstM m n d l = ((l[i], (findH m l[i] n d).1), 0)
  | [], _, hi, _, _ => by simp at hi
  | k :: r, 0, hi, _, h => by
    unfold firstM
    rw [if_pos (show (findH m k n d).2 = 0 from h)]
    rfl
  | k :: r, i + 1, hi, h1, h => by
    unfold firstM
    rw [if_neg (show ¬ (findH m k n d).2 = 0 from h1 0 (by simp) (by omega))]
    have hi' : i < r.length := by simpa using hi
    have := firstM_at (l := r) hi' (fun j hj hji => h1 (j + 1) (by simpa using hj) (by omega)) h
    exact this
theorem oneM_ok {m : List EntM} {c : Nat} {n d : ByteArray} (h : (oneM m c n d).2 = 0) : (oneM m c n d).1 ∈ candM m c n d := by
  unfold oneM at *
  have hs : ∀ p ∈ conM m c n d, p ∈ candM m c n d := fun p hp => by
    unfold conM maxM maxL at hp
    exact (List.mem_filter.1 (List.mem_filter.1 hp).1).1
  generalize conM m c n d = L at h hs ⊢
  match L, h, hs with
  | [], h, _ => cases h
  | [p], _, hs => exact hs p (List.mem_singleton.2 rfl)
  | _ :: _ :: _, h, _ => cases h
theorem someM_ok {m : List EntM} {c : Nat} {n d : ByteArray} (h : (someM m c n d).2 = 0) : (someM m c n d).1 ∈ candM m c n d := by
  unfold someM at *
  cases hL : candM m c n d with
  | nil => rw [hL] at h; cases h
  | cons p r => exact List.mem_cons_self ..
theorem cand_ifc {m : List EntM} (hw : WFm m) (ho : OrdM m) {c : Nat} (hc : c < m.length) {n d : ByteArray} {p : Int × Int} (hp : p ∈ candM m c n d) : isIfaceM m p.1 = true := by
  obtain ⟨y, k, hy, hk, rfl, hyc, _⟩ := cand_mem hw ho hc hp
  obtain ⟨z, e, _, h⟩ := clo_mem hw ho hc _ hyc
  obtain rfl : y = z := by omega
  unfold isIfaceM
  rw [entAt_nat hy]
  rw [clsAt_at hy] at h
  exact h
/-- Where the chain has no such method. -/
theorem lookup_none {m : List EntM} {c : Nat} {n d : ByteArray} (h : ∀ k ∈ ch m c, (findH m k n d).2 ≠ 0) : lookupM m c n d = firstR [oneM m c n d, someM m c n d] := by
  unfold lookupM chainR
  rw [firstM_none h]
  rfl
theorem lookup_none_ok {m : List EntM} (hw : WFm m) (ho : OrdM m) {c : Nat} (hc : c < m.length) {n d : ByteArray} (h : ∀ k ∈ ch m c, (findH m k n d).2 ≠ 0) :
    (lookupM m c n d).2 = 21 ∨ ((lookupM m c n d).2 = 0 ∧ isIfaceM m (lookupM m c n d).1.1 = true) := by
  rw [lookup_none h]
  unfold firstR
  by_cases h1 : (oneM m c n d).2 = 0
  · rw [if_pos h1]
    exact .inr ⟨rfl, cand_ifc hw ho hc (oneM_ok h1)⟩
  · rw [if_neg h1]
    unfold firstR
    by_cases h2 : (someM m c n d).2 = 0
    · rw [if_pos h2]
      exact .inr ⟨rfl, cand_ifc hw ho hc (someM_ok h2)⟩
    · rw [if_neg h2]
      exact .inl rfl
/-- A class that names no interface has what its superclass has. -/
theorem lookup_super {m : List EntM} (hw : WFm m) (ho : OrdM m) {c : Nat} (hc : c < m.length) (h0 : 0 < c) {n d : ByteArray} (h : ∀ k ∈ ch m c, (findH m k n d).2 ≠ 0) (hi : m[c].c.ifaces = []) :
    ∃ p : Nat, p < m.length ∧ superM m c = ((p : Int), 0) ∧ lookupM m p n d = lookupM m c n d := by
  obtain ⟨p, hp, e, _, hcand⟩ := cand_pre hw ho hc h0 n d
  refine ⟨p, hp, e, ?_⟩
  have hin : (p : Int) ∈ ch m c := by
    obtain ⟨q, hq1, hq2, hq, _⟩ := par hw hc h0
    have : superM m c = ((q : Int), 0) := by
      unfold superM
      rw [entAt_nat hc]
      simp only
      rw [if_neg (by rw [hq2]; omega), hq2]
    rw [e] at this
    injection this with e1 _
    obtain rfl : p = q := by omega
    rw [ch_step hw hc h0 hq2 hp]
    refine List.mem_cons_of_mem _ (List.mem_of_getElem? (ch_head hw hp))
  rw [lookup_none h, lookup_none (fun k hk => h k (ch_sub hw hc p hin k hk))]
  have hcc := hcand hi
  unfold oneM conM maxM someM
  rw [hcc]
theorem super_ok {m : List EntM} {c : Nat} (hc : c < m.length) (hw : WFm m) : (superM m c).2 = 0 → 0 < c := fun h => by
  rcases Nat.eq_zero_or_pos c with rfl | h0
  · unfold superM at h
    rw [entAt_nat hc] at h
    simp only at h
    rw [if_pos (by have := (hw.above 0 hc).2.2; omega)] at h
    cases h
  · exact h0
end Go.Proofs.YtmpphhkbjmjomaaGreatDoor.Hi
