/- Resolving in general: what the answers are (plain). -/
import Derived.Test.YtmpphhkbjmjomaaGreatDoorUb
import Derived.Test.YtmpphhkbjmjomaaGreatDoorUc
set_option maxRecDepth 100000
set_option maxHeartbeats 1000000
set_option linter.unusedVariables false
set_option linter.unusedSimpArgs false
namespace Go.Proofs.YtmpphhkbjmjomaaGreatDoor.Hi
open Go.RowKit Bs

/-- The type that a reference's text writes; the error. -/
def refT (s : ByteArray) : TyM := ⟨(Pr.refTyM s.data.toList).dims, Pr.ba (Pr.refTyM s.data.toList).name⟩
def refE (s : ByteArray) : Int := (Pr.refTyM s.data.toList).err
theorem tail_name (l : List UInt8) (h : l.length ≤ 2000) : (Pr.tail l).name.length ≤ 2000 := by
  unfold Pr.tail
  have key : ∀ q : List UInt8, (Pr.oneTail q).name.length ≤ q.length := by
    intro q
    match q with
    | [] => exact Nat.le_refl _
    | x :: r =>
      rw [Pr.oneTail_cons]
      split
      · exact Nat.zero_le _
      · split
        · have := Pr.cut_le r [59]
          show (Lib.cut r [59]).1.length ≤ _
          simp
          omega
        · exact Nat.zero_le _
  refine Nat.le_trans (key _) ?_
  simp
  omega
theorem refT_ok (s : ByteArray) (h : refE s = 0) : (refT s).name.size ≤ 2000 ∧ 0 ≤ (refT s).dims ∧ ((refT s).dims = 0 → (refT s).name.toList.isEmpty = false) := by
  unfold refE at h
  unfold refT
  generalize s.data.toList = l at *
  unfold Pr.refTyM at *
  by_cases hp : l.head? = some 91
  · rw [if_pos hp] at h ⊢
    unfold Pr.parseM at *
    by_cases h1 : 2000 < l.length
    · rw [if_pos h1] at h
      exact absurd h (by decide)
    rw [if_neg h1] at h ⊢
    by_cases h2 : (!(Pr.tail l).ok || !(Pr.tail l).rest.isEmpty) = true
    · rw [if_pos h2] at h
      exact absurd h (by decide)
    rw [if_neg h2] at h ⊢
    by_cases h3 : 255 < Pr.brackets l
    · rw [if_pos h3] at h
      exact absurd h (by decide)
    rw [if_neg h3] at h ⊢
    refine ⟨?_, Int.natCast_nonneg _, fun h0 => ?_⟩
    · show (Pr.ba (Pr.tail l).name).size ≤ 2000
      rw [Pr.ba_size]
      exact tail_name l (by omega)
    · exfalso
      obtain ⟨r, rfl⟩ : ∃ r, l = 91 :: r := by
        cases l with
        | nil => cases hp
        | cons x r =>
          obtain rfl : x = 91 := by simpa using hp
          exact ⟨r, rfl⟩
      have h0 : ((Pr.brackets (91 :: r) : Nat) : Int) = 0 := h0
      rw [Pr.brackets_cons, if_pos rfl] at h0
      omega
  · rw [if_neg hp] at h ⊢
    by_cases h1 : 2000 < l.length
    · rw [if_pos h1] at h
      exact absurd h (by decide)
    rw [if_neg h1] at h ⊢
    by_cases h2 : Lf.validB l = true
    · rw [if_pos h2]
      refine ⟨?_, Int.le_refl _, fun _ => ?_⟩
      · show (Pr.ba l).size ≤ 2000
        rw [Pr.ba_size]
        omega
      · show (Pr.ba l).toList.isEmpty = false
        rw [Pr.ba_toList]
        cases l with
        | nil => exact absurd h2 (by decide)
        | cons x r => rfl
    · rw [if_neg h2] at h
      exact absurd h (by decide)

/-- Is a type open to a class? -/
def typeOpenM (m : List EntM) (i : Nat) (t : TyM) : Bool := t.name.toList.isEmpty || classOpenM m i (byNameM m t.name).1.toNat
/-- The type that a text names, from a class. -/
def classR (m : List EntM) (i : Nat) (s : ByteArray) : TyM × Int :=
  if refE s ≠ 0 then (zeroT, 4) else if loadedE m (refT s) ≠ 0 then (zeroT, loadedE m (refT s)) else if typeOpenM m i (refT s) = true then (refT s, 0) else (zeroT, 22)
/-- The flags of a method. -/
def flagsAt (m : List EntM) (p : Int × Int) : Int := (((entAt m p.1).bind fun e => e.c.meths[p.2.toNat]?).map (·.flags)).getD 0
theorem flagsAt_at {m : List EntM} {a b : Nat} (ha : a < m.length) (hb : b < m[a].c.meths.length) : flagsAt m ((a : Int), (b : Int)) = m[a].c.meths[b].flags := by
  unfold flagsAt
  simp only [entAt_nat ha, Option.bind_some, Int.toNat_natCast]
  rw [List.getElem?_eq_getElem hb]
  rfl
def noneR : (Int × Int) × Int := ((0, 0), 6)
/-- A public instance method of the top class. -/
def objR (m : List EntM) (n d : ByteArray) : (Int × Int) × Int :=
  if (findH m ((0 : Nat) : Int) n d).2 = 0 then (if (bits .and .i64 (flagsAt m (((0 : Nat) : Int), (findH m ((0 : Nat) : Int) n d).1)) 1 == 0) = true then noneR else if (bits .and .i64 (flagsAt m (((0 : Nat) : Int), (findH m ((0 : Nat) : Int) n d).1)) 8 != 0) = true then noneR else ((((0 : Nat) : Int), (findH m ((0 : Nat) : Int) n d).1), 0)) else noneR
def lookM (m : List EntM) (c : Nat) (n d : ByteArray) : (Int × Int) × Int := if isIfaceM m c = true then ((0, 0), 23) else lookupM m c n d
def lookIM (m : List EntM) (c : Nat) (n d : ByteArray) : (Int × Int) × Int := if isIfaceM m c = true then firstR [ownR m c n d, objR m n d, oneM m c n d, someM m c n d] else ((0, 0), 23)
/-- The class whose methods a type has. -/
def holN (m : List EntM) (t : TyM) : Nat := if 0 < t.dims then 0 else (byNameM m t.name).1.toNat
/-- The method that a reference names, without access. -/
def foundM (m : List EntM) (t : TyM) (r : RefM) : (Int × Int) × Int :=
  if r.iface = true then (if 0 < t.dims then ((0, 0), 23) else lookIM m (holN m t) r.name r.desc) else lookM m (holN m t) r.name r.desc
def refOk (r : RefM) : Bool := Pr.refB r.cls.data.toList r.name.data.toList r.desc.data.toList
def openR (m : List EntM) (i : Nat) (r : RefM) : Bool := moM m i (foundM m (refT r.cls) r).1.1.toNat (flagsAt m (foundM m (refT r.cls) r).1) (holN m (refT r.cls))
/-- The method that a reference names, from a class. -/
def methodR (m : List EntM) (i : Nat) (r : RefM) : (Int × Int) × Int :=
  if Pr.formE (refOk r) ≠ 0 then ((0, 0), Pr.formE (refOk r)) else if (classR m i r.cls).2 ≠ 0 then ((0, 0), (classR m i r.cls).2) else if (foundM m (refT r.cls) r).2 ≠ 0 then ((0, 0), (foundM m (refT r.cls) r).2) else if openR m i r = true then ((foundM m (refT r.cls) r).1, 0) else ((0, 0), 22)

theorem loaded_name {m : List EntM} {t : TyM} (h : loadedE m t = 0) (hE : t.name.toList.isEmpty = false) : ∃ j : Nat, j < m.length ∧ byNameM m t.name = ((j : Int), 0) := by
  unfold loadedE at h
  by_cases hk : tyOk t = true
  · rw [if_pos hk, hE] at h
    cases hn : nameIx m t.name with
    | none =>
      rw [hn] at h
      exact absurd h (by decide)
    | some j => exact ⟨j, nameIx_lt hn, by unfold byNameM; rw [hn]⟩
  · rw [if_neg hk] at h
    exact absurd h (by decide)
theorem class_ok {m : List EntM} {i : Nat} {s : ByteArray} (h : (classR m i s).2 = 0) : refE s = 0 ∧ loadedE m (refT s) = 0 ∧ typeOpenM m i (refT s) = true ∧ classR m i s = (refT s, 0) := by
  unfold classR at *
  by_cases h1 : refE s ≠ 0
  · rw [if_pos h1] at h
    exact absurd h (by decide)
  rw [if_neg h1] at h ⊢
  by_cases h2 : loadedE m (refT s) ≠ 0
  · rw [if_pos h2] at h
    exact absurd h h2
  rw [if_neg h2] at h ⊢
  by_cases h3 : typeOpenM m i (refT s) = true
  · rw [if_pos h3]
    exact ⟨by omega, by omega, h3, rfl⟩
  · rw [if_neg h3] at h
    exact absurd h (by decide)
theorem holN_lt {m : List EntM} (h0 : 0 < m.length) {s : ByteArray} (h : refE s = 0) (hl : loadedE m (refT s) = 0) : holN m (refT s) < m.length := by
  unfold holN
  by_cases hd : 0 < (refT s).dims
  · rw [if_pos hd]; exact h0
  · rw [if_neg hd]
    obtain ⟨_, h1, h2⟩ := refT_ok s h
    obtain ⟨j, hj, e⟩ := loaded_name hl (h2 (by omega))
    rw [e]
    simpa using hj

/-- A method of a name and a descriptor that a class has, of itself or from above. -/
def HasM (m : List EntM) (c : Nat) (n d : ByteArray) (p : Int × Int) : Prop := ∃ (a b : Nat) (ha : a < m.length) (hb : b < m[a].c.meths.length), p = ((a : Int), (b : Int)) ∧ Pr.mEq n d m[a].c.meths[b] = true ∧ extM m c a = true
theorem findH_ok {m : List EntM} {c : Nat} (hc : c < m.length) {n d : ByteArray} (h : (findH m (c : Int) n d).2 = 0) : ∃ (b : Nat) (hb : b < m[c].c.meths.length), (findH m (c : Int) n d).1 = (b : Int) ∧ Pr.mEq n d m[c].c.meths[b] = true := by
  rw [findH_at hc] at *
  unfold findE Pr.findM at *
  cases hf : m[c].c.meths.findIdx? (Pr.mEq n d) with
  | none =>
    rw [hf] at h
    exact absurd h (by decide)
  | some i =>
    obtain ⟨h1, h2, _⟩ := List.findIdx?_eq_some_iff_getElem.1 hf
    refine ⟨i, h1, ?_, h2⟩
    show (if ((i : Nat) : Int) < 0 then (0, 6) else (((i : Nat) : Int), (0 : Int))).1 = _
    rw [if_neg (by omega)]
theorem firstR_ok : ∀ {l : List ((Int × Int) × Int)}, (firstR l).2 = 0 → ∃ x ∈ l, x.2 = 0 ∧ (firstR l).1 = x.1
  | [], h => absurd h (by decide)
  | x :: r, h => by
    unfold firstR at *
    by_cases h0 : x.2 = 0
    · rw [if_pos h0]
      exact ⟨x, List.mem_cons_self .., h0, rfl⟩
    · rw [if_neg h0] at h ⊢
      obtain ⟨y, hy, e1, e2⟩ := firstR_ok h
      exact ⟨y, List.mem_cons_of_mem _ hy, e1, e2⟩
theorem firstR_none : ∀ {l : List ((Int × Int) × Int)}, (∀ x ∈ l, x.2 ≠ 0) → firstR l = ((0, 0), 21)
  | [], _ => rfl
  | x :: r, h => by
    unfold firstR
    rw [if_neg (h x (List.mem_cons_self ..))]
    exact firstR_none fun y hy => h y (List.mem_cons_of_mem _ hy)
theorem firstR_at : ∀ {l : List ((Int × Int) × Int)} {k : Nat} {x : (Int × Int) × Int}, l[k]? = some x → (∀ j y, j < k → l[j]? = some y → y.2 ≠ 0) → x.2 = 0 → firstR l = (x.1, 0)
  | [], k, x, h, _, _ => by simp at h
  | z :: r, 0, x, h, _, h0 => by
    obtain rfl : z = x := by simpa using h
    unfold firstR
    rw [if_pos h0]
  | z :: r, k + 1, x, h, hp, h0 => by
    unfold firstR
    rw [if_neg (hp 0 z (by omega) rfl)]
    exact firstR_at (by simpa using h) (fun j y hj hy => hp (j + 1) y (by omega) (by simpa using hy)) h0
theorem firstM_ok {m : List EntM} {n d : ByteArray} : ∀ {l : List Int}, (firstM m n d l).2 = 0 → ∃ k ∈ l, (findH m k n d).2 = 0 ∧ (firstM m n d l).1 = (k, (findH m k n d).1)
  | [], h => absurd (show (6 : Int) = 0 from h) (by decide)
  | k :: r, h => by
    unfold firstM at *
    by_cases h0 : (findH m k n d).2 = 0
    · rw [if_pos h0]
      exact ⟨k, List.mem_cons_self .., h0, rfl⟩
    · rw [if_neg h0] at h ⊢
      obtain ⟨y, hy, e1, e2⟩ := firstM_ok h
      exact ⟨y, List.mem_cons_of_mem _ hy, e1, e2⟩

theorem has_own {m : List EntM} {c k : Nat} (hk : k < m.length) (he : extM m c k = true) {n d : ByteArray} (h : (findH m (k : Int) n d).2 = 0) : HasM m c n d ((k : Int), (findH m (k : Int) n d).1) := by
  obtain ⟨b, hb, e, hq⟩ := findH_ok hk h
  exact ⟨k, b, hk, hb, by rw [e], hq, he⟩
section
variable {m : List EntM} (hw : WFm m) (ho : OrdM m)
include hw ho
theorem has_chain {c : Nat} (hc : c < m.length) {n d : ByteArray} (h : (chainR m c n d).2 = 0) : HasM m c n d (chainR m c n d).1 := by
  unfold chainR at *
  obtain ⟨k, hk, h0, e⟩ := firstM_ok h
  obtain ⟨y, rfl, _, hy, _⟩ := ch_mem hw hc k hk
  rw [e]
  exact has_own hy ((ext_iff hw ho hc hy).2 (.inl hk)) h0
theorem has_cand {c : Nat} (hc : c < m.length) {n d : ByteArray} {p : Int × Int} (hp : p ∈ candM m c n d) : HasM m c n d p := by
  obtain ⟨y, k, hy, hk, rfl, hyc, hq, _⟩ := cand_mem hw ho hc hp
  exact ⟨y, k, hy, hk, rfl, hq, (ext_iff hw ho hc hy).2 (.inr hyc)⟩
theorem has_look {c : Nat} (hc : c < m.length) {n d : ByteArray} (h : (lookM m c n d).2 = 0) : HasM m c n d (lookM m c n d).1 ∧ isIfaceM m c = false := by
  unfold lookM at *
  by_cases hi : isIfaceM m c = true
  · rw [if_pos hi] at h
    exact absurd h (by decide)
  · rw [if_neg hi] at h ⊢
    unfold lookupM at *
    obtain ⟨x, hx, h0, e⟩ := firstR_ok h
    rw [e]
    refine ⟨?_, by simpa using hi⟩
    simp only [List.mem_cons, List.not_mem_nil, or_false] at hx
    rcases hx with rfl | rfl | rfl
    · exact has_chain hw ho hc h0
    · exact has_cand hw ho hc (oneM_ok h0)
    · exact has_cand hw ho hc (someM_ok h0)
theorem has_obj {c : Nat} (hc : c < m.length) {n d : ByteArray} (h : (objR m n d).2 = 0) : HasM m c n d (objR m n d).1 := by
  unfold objR at *
  by_cases h0 : (findH m ((0 : Nat) : Int) n d).2 = 0
  · rw [if_pos h0] at h ⊢
    split at h
    · exact absurd h (by decide)
    · next h1 =>
      rw [if_neg h1]
      split at h
      · exact absurd h (by decide)
      · next h2 =>
        rw [if_neg h2]
        exact has_own ho.root.1 (ext_root hw ho hc) h0
  · rw [if_neg h0] at h
    exact absurd h (by decide)
theorem has_lookI {c : Nat} (hc : c < m.length) {n d : ByteArray} (h : (lookIM m c n d).2 = 0) : HasM m c n d (lookIM m c n d).1 ∧ isIfaceM m c = true := by
  unfold lookIM at *
  by_cases hi : isIfaceM m c = true
  · rw [if_pos hi] at h ⊢
    obtain ⟨x, hx, h0, e⟩ := firstR_ok h
    rw [e]
    refine ⟨?_, hi⟩
    simp only [List.mem_cons, List.not_mem_nil, or_false] at hx
    rcases hx with rfl | rfl | rfl | rfl
    · exact has_own hc (ext_refl hw ho hc) h0
    · exact has_obj hw ho hc h0
    · exact has_cand hw ho hc (oneM_ok h0)
    · exact has_cand hw ho hc (someM_ok h0)
  · rw [if_neg hi] at h
    exact absurd h (by decide)
theorem has_found {t : TyM} {r : RefM} (hc : holN m t < m.length) (h : (foundM m t r).2 = 0) : HasM m (holN m t) r.name r.desc (foundM m t r).1 ∧ (¬ 0 < t.dims → isIfaceM m (holN m t) = r.iface) := by
  unfold foundM at *
  cases hi : r.iface
  · rw [hi, if_neg (by decide)] at h
    rw [if_neg (by decide)]
    obtain ⟨h1, h2⟩ := has_look hw ho hc h
    exact ⟨h1, fun _ => h2⟩
  · rw [hi, if_pos rfl] at h
    rw [if_pos rfl]
    by_cases hd : 0 < t.dims
    · rw [if_pos hd] at h
      exact absurd h (by decide)
    · rw [if_neg hd] at h ⊢
      obtain ⟨h1, h2⟩ := has_lookI hw ho hc h
      exact ⟨h1, fun _ => h2⟩
end
theorem method_ok {m : List EntM} {i : Nat} {r : RefM} (h : (methodR m i r).2 = 0) : (classR m i r.cls).2 = 0 ∧ (methodR m i r).1 = (foundM m (refT r.cls) r).1 ∧ (foundM m (refT r.cls) r).2 = 0 ∧ openR m i r = true := by
  unfold methodR at *
  by_cases h1 : Pr.formE (refOk r) ≠ 0
  · rw [if_pos h1] at h
    exact absurd h h1
  rw [if_neg h1] at h ⊢
  by_cases h2 : (classR m i r.cls).2 ≠ 0
  · rw [if_pos h2] at h
    exact absurd h h2
  rw [if_neg h2] at h ⊢
  by_cases h3 : (foundM m (refT r.cls) r).2 ≠ 0
  · rw [if_pos h3] at h
    exact absurd h h3
  rw [if_neg h3] at h ⊢
  by_cases h4 : openR m i r = true
  · rw [if_pos h4]
    exact ⟨by omega, rfl, by omega, h4⟩
  · rw [if_neg h4] at h
    exact absurd h (by decide)
theorem method_bad {m : List EntM} {i : Nat} {r : RefM} (h : (methodR m i r).2 ≠ 0) : (methodR m i r).1 = (0, 0) ∧ ((classR m i r.cls).2 = 0 ∨ (methodR m i r).2 = 1 ∨ (methodR m i r).2 = (classR m i r.cls).2) := by
  unfold methodR at *
  by_cases h1 : Pr.formE (refOk r) ≠ 0
  · rw [if_pos h1]
    refine ⟨rfl, .inr (.inl ?_)⟩
    unfold Pr.formE at *
    split at h1
    · exact absurd rfl h1
    · next h => exact if_neg h
  rw [if_neg h1] at h ⊢
  by_cases h2 : (classR m i r.cls).2 ≠ 0
  · rw [if_pos h2]
    exact ⟨rfl, .inr (.inr rfl)⟩
  rw [if_neg h2] at h ⊢
  refine ⟨?_, .inl (by omega)⟩
  by_cases h3 : (foundM m (refT r.cls) r).2 ≠ 0
  · rw [if_pos h3]
  rw [if_neg h3] at h ⊢
  by_cases h4 : openR m i r = true
  · rw [if_pos h4] at h
    exact absurd rfl h
  · rw [if_neg h4]
end Go.Proofs.YtmpphhkbjmjomaaGreatDoor.Hi
