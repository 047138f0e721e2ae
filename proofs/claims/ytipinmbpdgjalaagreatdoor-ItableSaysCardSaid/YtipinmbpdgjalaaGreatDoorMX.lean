/- The plain law: how classes that arrive lie above one another. -/
import Derived.Test.YtipinmbpdgjalaaGreatDoorME
import Derived.StillTailTactics
set_option maxRecDepth 100000
set_option maxHeartbeats 1000000
set_option linter.unusedVariables false
set_option linter.unusedSimpArgs false
namespace Go.Proofs.YtipinmbpdgjalaaGreatDoor.Hi
open Go.RowKit Bs

/-- Each stands behind all that are in its own closure. -/
def Ordered (m : List EntM) (cl : List Int) : Prop := ∀ j (h : j < cl.length), ∀ y ∈ closAt m cl[j], y ∈ cl.take j

theorem addNew_mem {cl : List Int} {x y : Int} : x ∈ addNew cl y ↔ x ∈ cl ∨ x = y := by
  unfold addNew
  by_cases h : cl.contains y = true
  · rw [if_pos h]
    have : y ∈ cl := by simpa using h
    constructor
    · exact .inl
    · rintro (h | rfl)
      · exact h
      · exact this
  · rw [if_neg h]; simp
theorem addNew_pre (cl : List Int) (y : Int) : ∃ r, addNew cl y = cl ++ r := by
  unfold addNew
  split
  · exact ⟨[], by simp⟩
  · exact ⟨[y], rfl⟩
theorem addNew_ord {m : List EntM} {cl : List Int} {y : Int} (h : Ordered m cl) (hy : ∀ z ∈ closAt m y, z ∈ cl) : Ordered m (addNew cl y) := by
  unfold addNew
  split
  · exact h
  · intro j hj z hz
    by_cases e : j < cl.length
    · rw [List.getElem_append_left e] at hz
      rw [List.take_append_of_le_length (by omega)]
      exact h j e z hz
    · have e' : j = cl.length := by simp at hj; omega
      subst e'
      simp only [List.getElem_concat_length] at hz
      rw [List.take_left']
      · exact hy z hz
      · rfl

theorem foldAdd {m : List EntM} : ∀ (l cl : List Int), Ordered m cl → (∀ j (h : j < l.length), ∀ z ∈ closAt m l[j], z ∈ cl ∨ z ∈ l.take j) →
    Ordered m (l.foldl addNew cl) ∧ (∀ x, x ∈ l.foldl addNew cl ↔ x ∈ cl ∨ x ∈ l) ∧ ∃ r, l.foldl addNew cl = cl ++ r
  | [], cl, h, _ => ⟨h, by simp, [], by simp⟩
  | y :: r, cl, h, hl => by
    obtain ⟨h1, h2, r', h3⟩ := foldAdd r (addNew cl y) (addNew_ord h fun z hz => by
      have := hl 0 (by simp) z hz
      simpa using this) (fun j hj z hz => by
      have := hl (j + 1) (by simp; omega) z (by simpa using hz)
      rw [List.take_succ_cons] at this
      rcases this with h | h
      · exact .inl (addNew_mem.2 (.inl h))
      · rcases List.mem_cons.1 h with rfl | h
        · exact .inl (addNew_mem.2 (.inr rfl))
        · exact .inr h)
    obtain ⟨r'', h4⟩ := addNew_pre cl y
    refine ⟨h1, fun x => ?_, r'' ++ r', ?_⟩
    · show x ∈ r.foldl addNew (addNew cl y) ↔ _
      rw [h2 x, addNew_mem, List.mem_cons, or_assoc]
    · show r.foldl addNew (addNew cl y) = _
      rw [h3, h4, List.append_assoc]

theorem stepC_all {m : List EntM} {cl : List Int} {i : Int} (h : Ordered m cl) (hi : Ordered m (closAt m i)) :
    Ordered m (stepC m cl i) ∧ (∀ x, x ∈ stepC m cl i ↔ x ∈ cl ∨ x = i ∨ x ∈ closAt m i) ∧ ∃ r, stepC m cl i = cl ++ r := by
  obtain ⟨h1, h2, r, h3⟩ := foldAdd (m := m) (closAt m i) cl h fun j hj z hz => .inr (hi j hj z hz)
  unfold stepC
  obtain ⟨r', h4⟩ := addNew_pre ((closAt m i).foldl addNew cl) i
  refine ⟨addNew_ord h1 fun z hz => (h2 z).2 (.inr hz), fun x => ?_, r ++ r', ?_⟩
  · rw [addNew_mem, h2 x]
    constructor
    · rintro ((h | h) | h)
      · exact .inl h
      · exact .inr (.inr h)
      · exact .inr (.inl h)
    · rintro (h | h | h)
      · exact .inl (.inl h)
      · exact .inr h
      · exact .inl (.inr h)
  · rw [h4, h3, List.append_assoc]

theorem steps_all {m : List EntM} : ∀ (is cl : List Int), Ordered m cl → (∀ i ∈ is, Ordered m (closAt m i)) →
    Ordered m (is.foldl (stepC m) cl) ∧ (∀ x, x ∈ is.foldl (stepC m) cl ↔ x ∈ cl ∨ ∃ i ∈ is, x = i ∨ x ∈ closAt m i) ∧ ∃ r, is.foldl (stepC m) cl = cl ++ r
  | [], cl, h, _ => ⟨h, by simp, [], by simp⟩
  | i :: is, cl, h, hi => by
    obtain ⟨a1, a2, r, a3⟩ := stepC_all h (hi i (by simp))
    obtain ⟨b1, b2, r', b3⟩ := steps_all is (stepC m cl i) a1 fun j hj => hi j (by simp [hj])
    refine ⟨b1, fun x => ?_, r ++ r', ?_⟩
    · show x ∈ is.foldl (stepC m) (stepC m cl i) ↔ _
      rw [b2 x, a2 x]
      constructor
      · rintro ((h | h) | ⟨j, hj, h⟩)
        · exact .inl h
        · exact .inr ⟨i, by simp, h⟩
        · exact .inr ⟨j, by simp [hj], h⟩
      · rintro (h | ⟨j, hj, h⟩)
        · exact .inl (.inl h)
        · rcases List.mem_cons.1 hj with rfl | hj
          · exact .inl (.inr h)
          · exact .inr ⟨j, hj, h⟩
    · show is.foldl (stepC m) (stepC m cl i) = _
      rw [b3, a3, List.append_assoc]

theorem clsAt_app {m : List EntM} {e : EntM} {i : Nat} (h : i < m.length) : clsAt (m ++ [e]) i = clsAt m i := by
  unfold clsAt; rw [List.getElem?_append_left h]
theorem closAt_app {m : List EntM} {e : EntM} {x : Int} (h : x.toNat < m.length) : closAt (m ++ [e]) x = closAt m x := by
  unfold closAt; rw [List.getElem?_append_left h]
theorem Ordered.app {m : List EntM} {e : EntM} {cl : List Int} (h : Ordered m cl) (hc : ∀ x ∈ cl, 0 ≤ x ∧ x < m.length) : Ordered (m ++ [e]) cl := by
  intro j hj y hy
  have := hc _ (List.getElem_mem hj)
  rw [closAt_app (by omega)] at hy
  exact h j hj y hy
theorem nameIx_app {m : List EntM} {e : EntM} {s : ByteArray} {y : Nat} (h : nameIx m s = some y) : nameIx (m ++ [e]) s = some y := by
  rw [nameIx_append, h]; rfl

/-- How classes that arrived lie above one another. -/
structure OrdM (m : List EntM) : Prop where
  short : ∀ e ∈ m, e.c.name.size ≤ 1000
  root : 0 < m.length ∧ Pr.isIfc (clsAt m 0) = false ∧ closAt m 0 = [] ∧ (clsAt m 0).ifaces = []
  sup : ∀ i (h : i < m.length), 0 < i → Pr.isIfc (clsAt m m[i].above.toNat) = false ∧ (Pr.isIfc m[i].c = true → m[i].above = 0)
  ifc : ∀ i (h : i < m.length), ∀ x ∈ m[i].closure, Pr.isIfc (clsAt m x.toNat) = true
  ord : ∀ i (h : i < m.length), Ordered m m[i].closure
  pre : ∀ i (h : i < m.length), 0 < i → ∃ r, m[i].closure = closAt m m[i].above ++ r
  why : ∀ i (h : i < m.length), 0 < i → ∀ x ∈ m[i].closure, x ∈ closAt m m[i].above ∨ ∃ s ∈ m[i].c.ifaces, ∃ y : Nat, nameIx m s = some y ∧ (x = y ∨ x ∈ closAt m y)
  own : ∀ i (h : i < m.length), ∀ s ∈ m[i].c.ifaces, ∃ y : Nat, nameIx m s = some y ∧ (y : Int) ∈ m[i].closure

theorem aboveE_zero {p c : ClsM} {i : Nat} {want : Bool} (h : aboveE p c i want = 0) : Pr.isIfc p = want ∧ (want = false → Pr.isIfc c = true → i = 0) := by
  unfold aboveE at h
  split at h
  · cases h
  · rename_i hn
    cases hp : Pr.isIfc p <;> cases want <;> cases hc : Pr.isIfc c <;> simp_all

/-- What a class that arrives has met. -/
theorem defE_zero {m : List EntM} {c : ClsM} (h : defE m c = 0) : Pr.chk c = true ∧ m.length < 300 ∧ nameIx m c.name = none ∧
    (∃ p : Nat, p < m.length ∧ nameIx m c.super = some p ∧ supOf m c = p ∧ Pr.isIfc (clsAt m p) = false ∧ (Pr.isIfc c = true → p = 0)) ∧
    ∀ s ∈ c.ifaces, ∃ y : Nat, y < m.length ∧ nameIx m s = some y ∧ (aboveM m c s true).1 = y ∧ Pr.isIfc (clsAt m y) = true := by
  unfold defE at h
  split at h
  · cases h
  rename_i h1
  split at h
  · cases h
  rename_i h2
  split at h
  · cases h
  rename_i h3
  split at h
  · rename_i h4; exact absurd h h4
  rename_i h4
  have h4' : (aboveM m c c.super false).2 = 0 := by omega
  refine ⟨by simpa using h1, by omega, by simpa using h3, ?_, fun s hs => ?_⟩
  · obtain ⟨i, e1, e2, e3, e4⟩ := aboveM_ok h4'
    obtain ⟨e5, e6⟩ := aboveE_zero e4
    exact ⟨i, e2, e1, e3, e5, e6 rfl⟩
  · obtain ⟨i, e1, e2, e3, e4⟩ := aboveM_ok (ifcE_all h s hs)
    obtain ⟨e5, _⟩ := aboveE_zero e4
    exact ⟨i, e2, e1, e3, e5⟩

theorem OrdM.step {m : List EntM} (hw : WFm m) (h : OrdM m) {c : ClsM} (hd : defE m c = 0) : OrdM (m ++ [entOf m c]) := by
  obtain ⟨hchk, hlen, hnew, ⟨p, hp, hpn, hps, hpi, hpc⟩, hifs⟩ := defE_zero hd
  have hab : (entOf m c).above = p := hps
  have hcl : (entOf m c).c = c := rfl
  have hin : ∀ y ∈ ifsOf m c, ∃ s ∈ c.ifaces, ∃ k : Nat, k < m.length ∧ nameIx m s = some k ∧ y = k ∧ Pr.isIfc (clsAt m k) = true := fun y hy => by
    obtain ⟨s, hs, rfl⟩ := List.mem_map.1 hy
    obtain ⟨k, e1, e2, e3, e4⟩ := hifs s hs
    exact ⟨s, hs, k, e1, e2, e3, e4⟩
  have hclo : (entOf m c).closure = (ifsOf m c).foldl (stepC m) (closAt m p) := by
    show List.foldl _ (if supOf m c < 0 then [] else closAt m (supOf m c)) _ = _
    rw [hps, if_neg (by omega)]
  have hordAt : ∀ k : Nat, k < m.length → Ordered m (closAt m k) := fun k hk => by rw [closAt_at hk]; exact h.ord k hk
  obtain ⟨s1, s2, r, s3⟩ := steps_all (m := m) (ifsOf m c) (closAt m p) (hordAt p hp) fun i hi => by
    obtain ⟨s, _, k, hk, _, rfl, _⟩ := hin i hi
    exact hordAt k hk
  rw [← hclo] at s1 s2 s3
  have hcIn : ∀ k : Nat, k < m.length → ∀ x ∈ closAt m k, 0 ≤ x ∧ x < m.length := fun k hk x hx => by
    rw [closAt_at hk] at hx
    have := (hw.closed k hk).2 x hx
    omega
  have hIn : ∀ x ∈ (entOf m c).closure, 0 ≤ x ∧ x < m.length := fun x hx => by
    rcases (s2 x).1 hx with hx | ⟨i, hi, hx⟩
    · exact hcIn p hp x hx
    · obtain ⟨s, _, k, hk, _, rfl, _⟩ := hin i hi
      rcases hx with rfl | hx
      · omega
      · exact hcIn k hk x hx
  have hIfc : ∀ x ∈ (entOf m c).closure, Pr.isIfc (clsAt m x.toNat) = true := fun x hx => by
    rcases (s2 x).1 hx with hx | ⟨i, hi, hx⟩
    · rw [closAt_at hp] at hx; exact h.ifc p hp x hx
    · obtain ⟨s, _, k, hk, _, rfl, hk2⟩ := hin i hi
      rcases hx with rfl | hx
      · simpa using hk2
      · rw [closAt_at hk] at hx; exact h.ifc k hk x hx
  have hold : ∀ i (hi : i < m.length) (hi' : i < (m ++ [entOf m c]).length), (m ++ [entOf m c])[i] = m[i] := fun i hi _ => List.getElem_append_left hi
  have hnewI : ∀ (hi' : m.length < (m ++ [entOf m c]).length), (m ++ [entOf m c])[m.length] = entOf m c := fun _ => by simp
  have hcase : ∀ i, i < (m ++ [entOf m c]).length → i < m.length ∨ i = m.length := fun i hi => by simp at hi; omega
  have habs : ∀ i (hi : i < m.length), m[i].above.toNat < m.length := fun i hi => by have := (hw.above i hi).2.1; omega
  refine ⟨?_, ?_, ?_, ?_, ?_, ?_, ?_, ?_⟩
  · intro e he
    rcases List.mem_append.1 he with he | he
    · exact h.short e he
    · rw [List.mem_singleton.1 he, hcl]
      have := chk_name hchk
      omega
  · obtain ⟨r1, r2, r3, r4⟩ := h.root
    exact ⟨by simp, by rw [clsAt_app r1]; exact r2, by rw [closAt_app (by simpa using r1)]; exact r3, by rw [clsAt_app r1]; exact r4⟩
  · intro i hi h0
    rcases hcase i hi with h1 | rfl
    · rw [hold i h1 hi, clsAt_app (habs i h1)]
      exact h.sup i h1 h0
    · rw [hnewI hi, hab, hcl]
      refine ⟨by rw [clsAt_app (by simpa using hp)]; simpa using hpi, fun hc => by rw [hpc hc]; rfl⟩
  · intro i hi x hx
    rcases hcase i hi with h1 | rfl
    · rw [hold i h1 hi] at hx
      have := (hw.closed i h1).2 x hx
      rw [clsAt_app (by omega)]
      exact h.ifc i h1 x hx
    · rw [hnewI hi] at hx
      have := hIn x hx
      rw [clsAt_app (by omega)]
      exact hIfc x hx
  · intro i hi
    rcases hcase i hi with h1 | rfl
    · rw [hold i h1 hi]
      exact (h.ord i h1).app fun x hx => by have := (hw.closed i h1).2 x hx; omega
    · rw [hnewI hi]
      exact s1.app hIn
  · intro i hi h0
    rcases hcase i hi with h1 | rfl
    · rw [hold i h1 hi, closAt_app (habs i h1)]
      exact h.pre i h1 h0
    · rw [hnewI hi, hab, closAt_app (by simpa using hp)]
      exact ⟨r, s3⟩
  · intro i hi h0 x hx
    rcases hcase i hi with h1 | rfl
    · rw [hold i h1 hi] at hx ⊢
      rcases h.why i h1 h0 x hx with hx | ⟨s, hs, y, e1, e2⟩
      · left; rw [closAt_app (habs i h1)]; exact hx
      · have hy := nameIx_lt e1
        refine .inr ⟨s, hs, y, nameIx_app e1, ?_⟩
        rw [closAt_app (by simpa using hy)]
        exact e2
    · rw [hnewI hi] at hx ⊢
      rw [hab, hcl, closAt_app (by simpa using hp)]
      rcases (s2 x).1 hx with hx | ⟨j, hj, hx⟩
      · exact .inl hx
      · obtain ⟨s, hs, k, hk, hkn, rfl, _⟩ := hin j hj
        refine .inr ⟨s, hs, k, nameIx_app hkn, ?_⟩
        rw [closAt_app (by simpa using hk)]
        exact hx
  · intro i hi s hs
    rcases hcase i hi with h1 | rfl
    · rw [hold i h1 hi] at hs ⊢
      obtain ⟨y, e1, e2⟩ := h.own i h1 s hs
      exact ⟨y, nameIx_app e1, e2⟩
    · rw [hnewI hi] at hs ⊢
      rw [hcl] at hs
      obtain ⟨y, e1, e2, e3, _⟩ := hifs s hs
      exact ⟨y, nameIx_app e2, (s2 y).2 (.inr ⟨y, List.mem_map.2 ⟨s, hs, e3⟩, .inl rfl⟩)⟩

theorem ordM_start : OrdM startM := by
  have hl : startM.length = 3 := startAt_len 2
  have hc : ∀ i (h : i < startM.length), startM[i].closure = [] ∧ startM[i].c.ifaces = [] ∧ startM[i].c.name.size ≤ 1000 := by decide
  have ha : ∀ i (h : i < startM.length), 0 < i → startM[i].above = 0 := by decide
  have h0 : Pr.isIfc (clsAt startM 0) = false := by decide
  refine ⟨fun e he => ?_, ⟨by omega, h0, by rw [show (0 : Int) = ((0 : Nat) : Int) from rfl, closAt_at (by omega)]; exact (hc 0 (by omega)).1, by rw [clsAt_at (by omega)]; exact (hc 0 (by omega)).2.1⟩, fun i h hi => ?_, fun i h x hx => ?_, fun i h => ?_, fun i h hi => ?_, fun i h hi x hx => ?_, fun i h s hs => ?_⟩
  · obtain ⟨i, hi, rfl⟩ := List.getElem_of_mem he
    exact (hc i hi).2.2
  · rw [ha i h hi]
    exact ⟨h0, fun _ => rfl⟩
  · rw [(hc i h).1] at hx; cases hx
  · rw [(hc i h).1]; intro j hj; simp at hj
  · rw [(hc i h).1, ha i h hi, show (0 : Int) = ((0 : Nat) : Int) from rfl, closAt_at (by omega), (hc 0 (by omega)).1]
    exact ⟨[], rfl⟩
  · rw [(hc i h).1] at hx; cases hx
  · rw [(hc i h).2.1] at hs; cases hs
end Go.Proofs.YtipinmbpdgjalaaGreatDoor.Hi
/- The plain law: chains, what extends what. -/
set_option maxRecDepth 100000
set_option maxHeartbeats 1000000
set_option linter.unusedVariables false
set_option linter.unusedSimpArgs false
namespace Go.Proofs.YtipinmbpdgjalaaGreatDoor.Hi
open Go.RowKit Bs

/-- A class's chain. -/
def ch (m : List EntM) (a : Nat) : List Int := (chainM m a).1
/-- A class's closure. -/
def clo (m : List EntM) (a : Nat) : List Int := (closureM m a).1
theorem ch_at {m : List EntM} {a : Nat} (h : a < m.length) : ch m a = chainL m (m[a].depth.toNat + 1) a := by
  unfold ch chainM; rw [entAt_nat h]
theorem clo_at {m : List EntM} {a : Nat} (h : a < m.length) : clo m a = m[a].closure := by
  unfold clo closureM; rw [entAt_nat h]
theorem clo_eq {m : List EntM} {a : Nat} (h : a < m.length) : clo m a = closAt m a := by rw [clo_at h, closAt_at h]

section
variable {m : List EntM} (hw : WFm m)
include hw

theorem par {a : Nat} (h : a < m.length) (h0 : 0 < a) : ∃ p : Nat, p < a ∧ m[a].above = p ∧ ∃ hp : p < m.length, m[a].depth = m[p].depth + 1 := by
  obtain ⟨h1, h2, h3⟩ := hw.above a h
  have h4 : ¬ m[a].above < 0 := fun e => by have := h3.1 e; omega
  refine ⟨m[a].above.toNat, by omega, by omega, by omega, (hw.depth a h).2.2.1 _ (by omega) (by omega)⟩
theorem dep0 {a : Nat} (h : a < m.length) : 0 ≤ m[a].depth ∧ (m[a].depth = 0 ↔ a = 0) := by
  refine ⟨(hw.depth a h).1, fun e => ?_, (hw.depth a h).2.2.2⟩
  by_cases h0 : 0 < a
  · obtain ⟨p, _, _, hp, e1⟩ := par hw h h0
    have := (hw.depth p hp).1
    omega
  · omega
theorem ch_zero (h : 0 < m.length) : ch m 0 = [0] := by
  rw [ch_at h]
  have hd := (hw.depth 0 h).2.2.2 rfl
  have ha := ((hw.above 0 h).2.2).2 rfl
  rw [hd]
  show chainL m 1 (0 : Nat) = _
  rw [chainL_step h, if_pos ha]
  rfl
theorem ch_step {a p : Nat} (h : a < m.length) (h0 : 0 < a) (hp : m[a].above = p) (hpl : p < m.length) : ch m a = (a : Int) :: ch m p := by
  rw [ch_at h, ch_at hpl, chainL_step h]
  have hd := (hw.depth a h).2.2.1 p hpl hp
  have hd2 := (hw.depth p hpl).1
  rw [if_neg (by rw [hp]; omega), hp]
  rw [show m[a].depth.toNat = m[p].depth.toNat + 1 by omega]

/-- Along a chain. -/
theorem ch_ind {P : Nat → Prop} (h0 : P 0) (hs : ∀ a p, (h : a < m.length) → 0 < a → p < a → m[a].above = p → P p → P a) : ∀ a, a < m.length → P a := by
  intro a
  induction a using Nat.strongRecOn with
  | _ a ih =>
    intro h
    by_cases h1 : 0 < a
    · obtain ⟨p, e1, e2, hp, _⟩ := par hw h h1
      exact hs a p h h1 e1 e2 (ih p e1 hp)
    · obtain rfl : a = 0 := by omega
      exact h0

theorem ch_mem {a : Nat} (h : a < m.length) : ∀ x ∈ ch m a, ∃ k : Nat, x = k ∧ k ≤ a ∧ ∃ hk : k < m.length, m[k].depth ≤ m[a].depth := by
  revert h
  refine fun h => ch_ind hw (P := fun a => ∀ h : a < m.length, ∀ x ∈ ch m a, ∃ k : Nat, x = k ∧ k ≤ a ∧ ∃ hk : k < m.length, m[k].depth ≤ m[a].depth) ?_ ?_ a h h
  · intro h x hx
    rw [ch_zero hw h] at hx
    obtain rfl := List.mem_singleton.1 hx
    exact ⟨0, rfl, Nat.le_refl _, h, by omega⟩
  · intro a p h h0 hpa hp ih _ x hx
    rw [ch_step hw h h0 hp (by omega)] at hx
    rcases List.mem_cons.1 hx with rfl | hx
    · exact ⟨a, rfl, Nat.le_refl _, h, by omega⟩
    · obtain ⟨k, e1, e2, hk, e3⟩ := ih (by omega) x hx
      have := (hw.depth a h).2.2.1 p (by omega) hp
      exact ⟨k, e1, by omega, hk, by omega⟩

theorem ch_len {a : Nat} (h : a < m.length) : ((ch m a).length : Int) = m[a].depth + 1 := by
  refine ch_ind hw (P := fun a => ∀ h : a < m.length, ((ch m a).length : Int) = m[a].depth + 1) ?_ ?_ a h h
  · intro h
    rw [ch_zero hw h, (hw.depth 0 h).2.2.2 rfl]; rfl
  · intro a p h h0 hpa hp ih _
    have := (hw.depth a h).2.2.1 p (by omega) hp
    have := ih (by omega)
    rw [ch_step hw h h0 hp (by omega), List.length_cons]
    omega

theorem ch_head {a : Nat} (h : a < m.length) : (ch m a)[0]? = some (a : Int) := by
  by_cases h0 : 0 < a
  · obtain ⟨p, e1, e2, hp, _⟩ := par hw h h0
    rw [ch_step hw h h0 e2 hp]; rfl
  · obtain rfl : a = 0 := by omega
    rw [ch_zero hw h]; rfl

theorem ch_last {a : Nat} (h : a < m.length) : (ch m a)[m[a].depth.toNat]? = some 0 := by
  refine ch_ind hw (P := fun a => ∀ h : a < m.length, (ch m a)[m[a].depth.toNat]? = some 0) ?_ ?_ a h h
  · intro h
    rw [ch_zero hw h, (hw.depth 0 h).2.2.2 rfl]; rfl
  · intro a p h h0 hpa hp ih _
    have e := (hw.depth a h).2.2.1 p (by omega) hp
    have e2 := (hw.depth p (by omega)).1
    rw [ch_step hw h h0 hp (by omega), show m[a].depth.toNat = m[p].depth.toNat + 1 by omega]
    simpa using ih (by omega)

theorem ch_super {a : Nat} (h : a < m.length) : ∀ i (x y : Int), (ch m a)[i]? = some x → (ch m a)[i + 1]? = some y → superM m x = (y, 0) := by
  refine ch_ind hw (P := fun a => ∀ h : a < m.length, ∀ i (x y : Int), (ch m a)[i]? = some x → (ch m a)[i + 1]? = some y → superM m x = (y, 0)) ?_ ?_ a h h
  · intro h i x y h1 h2
    rw [ch_zero hw h] at h2
    simp at h2
  · intro a p h h0 hpa hp ih _ i x y h1 h2
    rw [ch_step hw h h0 hp (by omega)] at h1 h2
    cases i with
    | zero =>
      obtain rfl : (a : Int) = x := by simpa using h1
      have h2' : (ch m p)[0]? = some y := by simpa using h2
      rw [ch_head hw (by omega)] at h2'
      injection h2' with h2'
      unfold superM
      rw [entAt_nat h]
      simp only
      rw [if_neg (by rw [hp]; omega), hp, h2']
    | succ i => exact ih (by omega) i x y (by simpa using h1) (by simpa using h2)

theorem ch_nodup {a : Nat} (h : a < m.length) : (ch m a).Nodup := by
  refine ch_ind hw (P := fun a => ∀ h : a < m.length, (ch m a).Nodup) ?_ ?_ a h h
  · intro h
    rw [ch_zero hw h]; simp
  · intro a p h h0 hpa hp ih _
    rw [ch_step hw h h0 hp (by omega), List.nodup_cons]
    refine ⟨fun hx => ?_, ih (by omega)⟩
    obtain ⟨k, e1, e2, _⟩ := ch_mem hw (show p < m.length by omega) _ hx
    omega

theorem ch_sub {a : Nat} (h : a < m.length) : ∀ (b : Nat), (b : Int) ∈ ch m a → ∀ x ∈ ch m b, x ∈ ch m a := by
  refine ch_ind hw (P := fun a => ∀ h : a < m.length, ∀ (b : Nat), (b : Int) ∈ ch m a → ∀ x ∈ ch m b, x ∈ ch m a) ?_ ?_ a h h
  · intro h b hb x hx
    rw [ch_zero hw h] at hb ⊢
    have e : b = 0 := by have := List.mem_singleton.1 hb; omega
    subst e
    rwa [ch_zero hw h] at hx
  · intro a p h h0 hpa hp ih _ b hb x hx
    by_cases e : b = a
    · subst e; exact hx
    · rw [ch_step hw h h0 hp (by omega)] at hb ⊢
      rcases List.mem_cons.1 hb with hb | hb
      · omega
      · exact List.mem_cons_of_mem _ (ih (by omega) b hb x hx)

theorem ch_root {a : Nat} (h : a < m.length) : (0 : Int) ∈ ch m a := List.mem_of_getElem? (ch_last hw h)

/-- Going up to a depth. -/
theorem up_iff {b : Nat} (hb : b < m.length) {a : Nat} (h : a < m.length) : (upM m m[b].depth m[a].depth.toNat a == (b : Int)) = true ↔ (b : Int) ∈ ch m a := by
  refine ch_ind hw (P := fun a => ∀ h : a < m.length, (upM m m[b].depth m[a].depth.toNat a == (b : Int)) = true ↔ (b : Int) ∈ ch m a) ?_ ?_ a h h
  · intro h
    have hd := (hw.depth 0 h).2.2.2 rfl
    rw [ch_zero hw h, upM_stop (entAt_nat h) (by have := (hw.depth b hb).1; omega)]
    simp
    omega
  · intro a p h h0 hpa hp ih _
    have hpl : p < m.length := by omega
    have e := (hw.depth a h).2.2.1 p hpl hp
    have e2 := (hw.depth p hpl).1
    rw [ch_step hw h h0 hp hpl]
    by_cases hd : m[b].depth < m[a].depth
    · rw [show m[a].depth.toNat = m[p].depth.toNat + 1 by omega, upM_go (entAt_nat h) hd, hp, ih hpl]
      constructor
      · exact fun h => List.mem_cons_of_mem _ h
      · intro hm
        rcases List.mem_cons.1 hm with hm | hm
        · obtain rfl : b = a := by omega
          omega
        · exact hm
    · rw [upM_stop (entAt_nat h) hd]
      constructor
      · intro he
        have : (a : Int) = b := by simpa using he
        rw [this]; exact List.mem_cons_self ..
      · intro hm
        rcases List.mem_cons.1 hm with hm | hm
        · rw [hm]; simp
        · obtain ⟨k, e1, _, hk, e3⟩ := ch_mem hw hpl _ hm
          obtain rfl : b = k := by omega
          omega
end

/-- How many of the first n are in a list of numbers below n. -/
theorem count_mem : ∀ (l : List Int) (n : Nat), l.Nodup → (∀ x ∈ l, 0 ≤ x ∧ x < n) → ((List.range n).filter fun b : Nat => decide ((b : Int) ∈ l)).length = l.length := by
  intro l n hl hx
  induction l with
  | nil => simp
  | cons y l ih =>
    obtain ⟨h1, h2⟩ := List.nodup_cons.1 hl
    have ih' := ih h2 fun x hx' => hx x (by simp [hx'])
    have hy := hx y (by simp)
    have key : ∀ n : Nat, ((List.range n).filter fun b : Nat => decide ((b : Int) ∈ y :: l)).length = ((List.range n).filter fun b : Nat => decide ((b : Int) ∈ l)).length + (if y < n then 1 else 0) := by
      intro n
      induction n with
      | zero => simp; omega
      | succ n ihn =>
        rw [List.range_succ, List.filter_append, List.filter_append, List.length_append, List.length_append, ihn]
        by_cases e : (n : Int) = y
        · subst e
          simp [h1]
          omega
        · have e' : decide ((n : Int) ∈ y :: l) = decide ((n : Int) ∈ l) := by simp [e]
          have e'' : (y < ((n + 1 : Nat) : Int)) ↔ (y < (n : Int)) := by omega
          simp only [List.filter_cons, List.filter_nil, e', e'']
          omega
    rw [key n, ih', List.length_cons, if_pos (by omega)]

section
variable {m : List EntM} (hw : WFm m) (ho : OrdM m)
include hw ho

theorem ch_cls {a : Nat} (h : a < m.length) : ∀ x ∈ ch m a, x ≠ a → Pr.isIfc (clsAt m x.toNat) = false := by
  have key : ∀ a, a < m.length → ∀ h : a < m.length, ∀ x ∈ ch m a, x ≠ a → Pr.isIfc (clsAt m x.toNat) = false := ch_ind hw (fun h x hx hne => by
      rw [ch_zero hw h] at hx
      have := List.mem_singleton.1 hx
      exact absurd this (by simpa using hne)) (fun a p h h0 hpa hp ih _ x hx hne => by
      rw [ch_step hw h h0 hp (by omega)] at hx
      rcases List.mem_cons.1 hx with rfl | hx
      · exact absurd rfl hne
      · by_cases e : x = p
        · subst e
          have := (ho.sup a h h0).1
          rwa [hp] at this
        · exact ih (by omega) x hx e)
  exact key a h h
theorem ch_ifc {a : Nat} (h : a < m.length) (hi : Pr.isIfc (clsAt m a) = true) : ∀ x ∈ ch m a, x = a ∨ x = 0 := by
  intro x hx
  by_cases h0 : 0 < a
  · obtain ⟨p, e1, e2, hp, _⟩ := par hw h h0
    have := (ho.sup a h h0).2 (by rw [← clsAt_at h]; exact hi)
    rw [ch_step hw h h0 e2 hp] at hx
    rcases List.mem_cons.1 hx with hx | hx
    · exact .inl hx
    · obtain rfl : p = 0 := by omega
      rw [ch_zero hw hp] at hx
      exact .inr (List.mem_singleton.1 hx)
  · obtain rfl : a = 0 := by omega
    rw [ch_zero hw h] at hx
    exact .inr (List.mem_singleton.1 hx)

theorem clo_mem {a : Nat} (h : a < m.length) : ∀ x ∈ clo m a, ∃ k : Nat, x = k ∧ k < a ∧ Pr.isIfc (clsAt m k) = true := by
  intro x hx
  rw [clo_at h] at hx
  have h1 := (hw.closed a h).2 x hx
  have h2 := ho.ifc a h x hx
  exact ⟨x.toNat, by omega, by omega, h2⟩
/-- A chain's classes have closures within. -/
theorem clo_ch {a : Nat} (h : a < m.length) : ∀ b : Nat, (b : Int) ∈ ch m a → ∀ x ∈ clo m b, x ∈ clo m a := by
  have key : ∀ a, a < m.length → ∀ h : a < m.length, ∀ b : Nat, (b : Int) ∈ ch m a → ∀ x ∈ clo m b, x ∈ clo m a := ch_ind hw (fun h b hb x hx => by
      rw [ch_zero hw h] at hb
      have e : b = 0 := by have := List.mem_singleton.1 hb; omega
      subst e; exact hx) (fun a p h h0 hpa hp ih _ b hb x hx => by
      by_cases e : b = a
      · subst e; exact hx
      · rw [ch_step hw h h0 hp (by omega)] at hb
        rcases List.mem_cons.1 hb with hb | hb
        · omega
        · have h1 := ih (by omega) b hb x hx
          obtain ⟨r, h2⟩ := ho.pre a h h0
          rw [clo_at h, h2, hp, ← clo_eq (by omega)]
          exact List.mem_append_left _ h1)
  exact key a h h
/-- A closure's interfaces have closures within. -/
theorem clo_clo {a : Nat} (h : a < m.length) {b : Nat} (hb : (b : Int) ∈ clo m a) : ∀ x ∈ clo m b, x ∈ clo m a := by
  intro x hx
  obtain ⟨k, e1, e2, _⟩ := clo_mem hw ho h _ hb
  obtain rfl : b = k := by omega
  rw [clo_eq (by omega)] at hx
  rw [clo_at h] at hb ⊢
  obtain ⟨j, hj, e⟩ := List.getElem_of_mem hb
  exact List.mem_of_mem_take (ho.ord a h j hj x (by rw [e]; exact hx))

/-- b is above a: it is of a's chain or closure. -/
theorem ext_iff {a b : Nat} (ha : a < m.length) (hb : b < m.length) : extM m a b = true ↔ (b : Int) ∈ ch m a ∨ (b : Int) ∈ clo m a := by
  unfold extM
  rw [entAt_nat ha, entAt_nat hb]
  simp only
  by_cases hi : Pr.isIfc m[b].c = true
  · rw [if_pos hi, ← clo_at ha, Bool.or_eq_true]
    have hc : (clo m a).contains (b : Int) = true ↔ (b : Int) ∈ clo m a := by simp
    rw [hc]
    constructor
    · rintro (h | h)
      · left
        have : (a : Int) = b := by simpa using h
        rw [← this]
        exact List.mem_of_getElem? (ch_head hw ha)
      · exact .inr h
    · rintro (h | h)
      · left
        by_cases e : (b : Int) = a
        · rw [e]; simp
        · have := ch_cls hw ho ha _ h e
          rw [show ((b : Int)).toNat = b by simp, clsAt_at hb, hi] at this
          cases this
      · exact .inr h
  · rw [if_neg hi, up_iff hw hb ha]
    constructor
    · exact .inl
    · rintro (h | h)
      · exact h
      · obtain ⟨k, e1, e2, e3⟩ := clo_mem hw ho ha _ h
        obtain rfl : b = k := by omega
        rw [clsAt_at hb] at e3
        exact absurd e3 hi
theorem ext_le {a b : Nat} (ha : a < m.length) (hb : b < m.length) (h : extM m a b = true) : b ≤ a := by
  rcases (ext_iff hw ho ha hb).1 h with h | h
  · obtain ⟨k, e1, e2, _⟩ := ch_mem hw ha _ h
    omega
  · obtain ⟨k, e1, e2, _⟩ := clo_mem hw ho ha _ h
    omega
theorem ext_refl {a : Nat} (ha : a < m.length) : extM m a a = true := (ext_iff hw ho ha ha).2 (.inl (List.mem_of_getElem? (ch_head hw ha)))
theorem ext_root {a : Nat} (ha : a < m.length) : extM m a (0 : Nat) = true := (ext_iff hw ho ha ho.root.1).2 (.inl (ch_root hw ha))
theorem ext_anti {a b : Nat} (ha : a < m.length) (hb : b < m.length) (h : extM m a b = true) (hne : a ≠ b) : extM m b a = false := by
  cases e : extM m b a with
  | false => rfl
  | true =>
    have := ext_le hw ho ha hb h
    have := ext_le hw ho hb ha e
    omega
theorem ext_trans {a b c : Nat} (ha : a < m.length) (hb : b < m.length) (hc : c < m.length) (h1 : extM m a b = true) (h2 : extM m b c = true) : extM m a c = true := by
  rw [ext_iff hw ho ha hc]
  rcases (ext_iff hw ho ha hb).1 h1 with h1 | h1
  · rcases (ext_iff hw ho hb hc).1 h2 with h2 | h2
    · exact .inl (ch_sub hw ha b h1 _ h2)
    · exact .inr (clo_ch hw ho ha b h1 _ h2)
  · rcases (ext_iff hw ho hb hc).1 h2 with h2 | h2
    · obtain ⟨k, e1, e2, e3⟩ := clo_mem hw ho ha _ h1
      obtain rfl : b = k := by omega
      rcases ch_ifc hw ho hb e3 _ h2 with e | e
      · rw [e]; exact .inr h1
      · rw [e]; exact .inl (ch_root hw ha)
    · exact .inr (clo_clo hw ho ha h1 _ h2)

/-- How many classes a class extends. -/
theorem ext_count {a : Nat} (ha : a < m.length) : ((List.range m.length).filter fun b : Nat => extM m a b).length = (ch m a).length + (clo m a).length := by
  rw [← List.length_append]
  rw [← count_mem (ch m a ++ clo m a) m.length ?_ ?_]
  · congr 1
    refine List.filter_congr fun b hb => ?_
    have hb' := List.mem_range.1 hb
    rw [Bool.eq_iff_iff, ext_iff hw ho ha hb', decide_eq_true_eq, List.mem_append]
  · rw [List.nodup_append]
    refine ⟨ch_nodup hw ha, by rw [clo_at ha]; exact (hw.closed a ha).1, fun x hx y hy e => ?_⟩
    subst e
    obtain ⟨k, e1, e2, e3⟩ := clo_mem hw ho ha _ hy
    have := ch_cls hw ho ha x hx (by omega)
    rw [e1] at this
    simp [e3] at this
  · intro x hx
    rcases List.mem_append.1 hx with hx | hx
    · obtain ⟨k, e1, e2, hk, _⟩ := ch_mem hw ha _ hx
      omega
    · obtain ⟨k, e1, e2, e3⟩ := clo_mem hw ho ha _ hx
      omega
end
end Go.Proofs.YtipinmbpdgjalaaGreatDoor.Hi
/- The plain law: what closures are made of. -/
set_option maxRecDepth 100000
set_option maxHeartbeats 1000000
set_option linter.unusedVariables false
set_option linter.unusedSimpArgs false
namespace Go.Proofs.YtipinmbpdgjalaaGreatDoor.Hi
open Go.RowKit Bs

/-- Is it of the closure ahead, or does one of the first interfaces extend it? -/
def whyM (m : List EntM) (b0 : Bool) (ifs : List ByteArray) (x : Int) : Bool := b0 || ifs.any fun s => extM m (byNameM m s).1 x
theorem whyM_snoc (m : List EntM) (b0 : Bool) (ifs : List ByteArray) (s : ByteArray) (x : Int) : whyM m b0 (ifs ++ [s]) x = (whyM m b0 ifs x || extM m (byNameM m s).1 x) := by
  unfold whyM
  simp [List.any_append, Bool.or_assoc]

theorem nodup_ne {l : List Int} (h : l.Nodup) {i j : Nat} (hij : i < j) {x y : Int} (hx : l[i]? = some x) (hy : l[j]? = some y) : x ≠ y := by
  obtain ⟨hi, rfl⟩ := List.getElem?_eq_some_iff.1 hx
  obtain ⟨hj, rfl⟩ := List.getElem?_eq_some_iff.1 hy
  exact List.pairwise_iff_getElem.1 h i j hi hj hij
theorem clo_zero {m : List EntM} (ho : OrdM m) : clo m 0 = [] := by
  rw [clo_eq ho.root.1]
  exact ho.root.2.2.1
theorem ifs_zero {m : List EntM} (ho : OrdM m) (h : 0 < m.length) : m[0].c.ifaces = [] := by
  have := ho.root.2.2.2
  rwa [clsAt_at ho.root.1] at this
theorem ifs_own {m : List EntM} (ho : OrdM m) {a : Nat} (h : a < m.length) {s : ByteArray} (hs : s ∈ m[a].c.ifaces) : ∃ y : Nat, y < m.length ∧ byNameM m s = ((y : Int), 0) ∧ (y : Int) ∈ clo m a := by
  obtain ⟨y, e1, e2⟩ := ho.own a h s hs
  refine ⟨y, nameIx_lt e1, ?_, by rw [clo_at h]; exact e2⟩
  unfold byNameM; rw [e1]

section
variable {m : List EntM} (hw : WFm m) (ho : OrdM m)
include hw ho

theorem super_zero : superM m ((0 : Nat) : Int) = (0, 6) := by
  unfold superM
  rw [entAt_nat ho.root.1]
  simp only
  rw [if_pos (((hw.above 0 ho.root.1).2.2).2 rfl)]
theorem clo_pre {a : Nat} (h : a < m.length) (h0 : 0 < a) : ∃ p : Nat, p < m.length ∧ superM m a = ((p : Int), 0) ∧ ∃ r, clo m a = clo m p ++ r := by
  obtain ⟨p, e1, e2, hp, _⟩ := par hw h h0
  obtain ⟨r, hr⟩ := ho.pre a h h0
  refine ⟨p, hp, ?_, r, ?_⟩
  · unfold superM
    rw [entAt_nat h]
    simp only
    rw [if_neg (by rw [e2]; omega), e2]
  · rw [clo_at h, hr, e2, ← clo_eq hp]
theorem clo_apart {a : Nat} (h : a < m.length) {i j : Nat} (hij : i < j) {x y : Int} (hx : (clo m a)[i]? = some x) (hy : (clo m a)[j]? = some y) : x ≠ y ∧ extM m x y = false := by
  obtain ⟨hi, ex⟩ := List.getElem?_eq_some_iff.1 hx
  obtain ⟨hj, ey⟩ := List.getElem?_eq_some_iff.1 hy
  have hnd : (clo m a).Nodup := by rw [clo_at h]; exact (hw.closed a h).1
  have hne : x ≠ y := nodup_ne hnd hij hx hy
  refine ⟨hne, ?_⟩
  obtain ⟨kx, e1, e2, e3⟩ := clo_mem hw ho h x (List.mem_of_getElem? hx)
  obtain ⟨ky, f1, f2, f3⟩ := clo_mem hw ho h y (List.mem_of_getElem? hy)
  cases hext : extM m x y with
  | false => rfl
  | true =>
    exfalso
    subst e1; subst f1
    rcases (ext_iff hw ho (by omega) (by omega)).1 hext with hm | hm
    · rcases ch_ifc hw ho (by omega) e3 _ hm with e | e
      · exact hne e.symm
      · have : ky = 0 := by omega
        subst this
        rw [ho.root.2.1] at f3
        cases f3
    · rw [clo_eq (by omega)] at hm
      have hord := ho.ord a h i (by rw [← clo_at h]; exact hi)
      have hx' : m[a].closure[i]'(by rw [← clo_at h]; exact hi) = (kx : Int) := by
        have := ex
        simp only [clo_at h] at this
        exact this
      have := hord (ky : Int) (by rw [hx']; exact hm)
      rw [← clo_at h] at this
      obtain ⟨k, hk, e⟩ := List.getElem_of_mem this
      rw [List.getElem_take] at e
      simp only [List.length_take] at hk
      exact nodup_ne hnd (show k < j by omega) (List.getElem?_eq_some_iff.2 ⟨by omega, e⟩) hy rfl
theorem clo_why {a p : Nat} (h : a < m.length) (h0 : 0 < a) (hp : superM m a = ((p : Int), 0)) {x : Int} (hx : x ∈ clo m a) : whyM m ((clo m p).contains x) m[a].c.ifaces x = true := by
  obtain ⟨p', e1, e2, hp', _⟩ := par hw h h0
  have hpp : p' = p := by
    unfold superM at hp
    rw [entAt_nat h] at hp
    simp only at hp
    rw [if_neg (by rw [e2]; omega), e2] at hp
    injection hp with hp _
    omega
  subst hpp
  unfold whyM
  rw [Bool.or_eq_true]
  have hx' := hx
  rw [clo_at h] at hx'
  rcases ho.why a h h0 x hx' with hm | ⟨s, hs, y, e3, e4⟩
  · left
    rw [e2, ← clo_eq hp'] at hm
    simpa using hm
  · right
    rw [List.any_eq_true]
    refine ⟨s, hs, ?_⟩
    have hb : (byNameM m s).1 = (y : Int) := by unfold byNameM; rw [e3]
    rw [hb]
    have hy := nameIx_lt e3
    obtain ⟨kx, f1, f2, f3⟩ := clo_mem hw ho h x hx
    subst f1
    refine (ext_iff hw ho hy (by omega)).2 ?_
    rcases e4 with e4 | e4
    · left
      have : kx = y := by omega
      subst this
      exact List.mem_of_getElem? (ch_head hw hy)
    · right
      rw [clo_eq hy]; exact e4
end
end Go.Proofs.YtipinmbpdgjalaaGreatDoor.Hi
/- Worlds built out of a list of classes, in a law's walk. -/
set_option maxRecDepth 100000
set_option maxHeartbeats 1000000
set_option linter.unusedVariables false
set_option linter.unusedSimpArgs false
namespace Go.Proofs.YtipinmbpdgjalaaGreatDoor.Hi
open Go.RowKit Bs

/-- The world behind classes that arrive. -/
def defs (l : List ClsM) : List EntM := l.foldl defM startM

theorem defs_snoc (l : List ClsM) (c : ClsM) : defs (l ++ [c]) = defM (defs l) c := by unfold defs; rw [List.foldl_append]; rfl

/-- A world of classes, built from block B on, bw being its own; behind world w. -/
structure Built (B bw : Nat) (w wr : World) (m : List EntM) : Prop where
  hw : HW (fun b => B ≤ b ∧ b < wr.heap.size) bw wr m
  ord : OrdM m
  below : Below w.heap.size w wr
  le : w.heap.size ≤ B ∧ B ≤ wr.heap.size

theorem Built.wf {B bw : Nat} {w wr : World} {m : List EntM} (h : Built B bw w wr m) : WFm m := h.hw.wf
theorem Built.live {B bw : Nat} {w wr : World} {m : List EntM} (h : Built B bw w wr m) : ∀ k, (B ≤ k ∧ k < wr.heap.size) → k < wr.heap.size := fun _ hk => hk.2

theorem Built.next {B bw : Nat} {w wr w' : World} {m : List EntM} (h : Built B bw w wr m) (hb : Below wr.heap.size wr w') : Built B bw w w' m where
  hw := (h.hw.alike hb.size (Alike.of_below hb h.live)).mono fun k hk => ⟨hk.1, Nat.lt_of_lt_of_le hk.2 hb.size⟩
  ord := h.ord
  below := h.below.trans (hb.mono h.below.size)
  le := ⟨h.le.1, Nat.le_trans h.le.2 hb.size⟩

theorem defM_ord {m : List EntM} (hw : WFm m) (h : OrdM m) (c : ClsM) : OrdM (defM m c) := by
  unfold defM
  split
  · exact h.step hw (by assumption)
  · exact h

theorem Built.define {B bw : Nat} {w wr w' : World} {m : List EntM} (h : Built B bw w wr m) (c : ClsM) (hw' : HW (fun k => (B ≤ k ∧ k < wr.heap.size) ∨ (wr.heap.size ≤ k ∧ k < w'.heap.size)) bw w' (defM m c)) (hc : Chg (fun k => B ≤ k ∧ k < wr.heap.size) wr w') :
    Built B bw w w' (defM m c) where
  hw := hw'.mono fun k hk => by
    have := hc.size
    have := h.le
    rcases hk with hk | hk
    · exact ⟨hk.1, by omega⟩
    · exact ⟨by omega, hk.2⟩
  ord := defM_ord h.wf h.ord c
  below := h.below.trans (hc.below (by have := h.le; omega) fun k hk hf => by have := h.le; omega)
  le := ⟨h.le.1, Nat.le_trans h.le.2 hc.size⟩

/-- An element of a slice of classes, as a walk wants it. -/
theorem cls_elem {S : Nat → Prop} {w wr : World} {a : Option Addr} {c : Nat} {xs : List ClsM} (hx : ClsSl S w (.slice a xs.length c) xs) (hS : ∀ k, S k → k < w.heap.size) (hb : Below w.heap.size w wr) {k : Nat} (hk : k < xs.length) :
    ∃ b o v2 v5, a = some ⟨b, o, none⟩ ∧ wr.cell? ⟨b, o + k * 6, none⟩ = some (.string xs[k].name) ∧ wr.cell? ⟨b, o + k * 6 + 1, none⟩ = some (.string xs[k].super) ∧ wr.cell? ⟨b, o + k * 6 + 2, none⟩ = some v2 ∧ wr.cell? ⟨b, o + k * 6 + 3, none⟩ = some (.int .i64 xs[k].flags) ∧ wr.cell? ⟨b, o + k * 6 + 4, none⟩ = some (.int .i64 xs[k].loader) ∧ wr.cell? ⟨b, o + k * 6 + 5, none⟩ = some v5 ∧
      ClsIs S wr [.string xs[k].name, .string xs[k].super, v2, .int .i64 xs[k].flags, .int .i64 xs[k].loader, v5] xs[k] ∧ (∃ ia ic, v2 = .slice ia xs[k].ifaces.length ic) ∧ (∃ ma mc, v5 = .slice ma xs[k].meths.length mc) := by
  obtain ⟨a', c', hf, hle, hby, hcells⟩ := hx
  injection hf with hf1 hf2 hf3
  subst hf1; subst hf3
  rcases hcells with hnil | ⟨b, o, rfl, hSb, hcell⟩
  · rw [hnil] at hk; simp at hk
  obtain ⟨cs, hcl, hcs, hR⟩ := hcell k hk
  have hR' := hR
  obtain ⟨iv, mv, rfl, q1, q2, q3, q4, q5, q6⟩ := hR'
  have hbs := hS b hSb
  have cel : ∀ {j : Nat} {v : Value}, w.cell? ⟨b, j, none⟩ = some v → wr.cell? ⟨b, j, none⟩ = some v := fun hv => (World.cell?_of_block (w := w) (hb.block b hbs)).trans hv
  have g0 := cel (hcs 0 (by simp))
  have g1 := cel (hcs 1 (by simp))
  have g2 := cel (hcs 2 (by simp))
  have g3 := cel (hcs 3 (by simp))
  have g4 := cel (hcs 4 (by simp))
  have g5 := cel (hcs 5 (by simp))
  simp only [List.getElem_cons_zero, List.getElem_cons_succ, Nat.add_zero] at g0 g1 g2 g3 g4 g5
  obtain ⟨ia, ic, e1, _⟩ := q3
  obtain ⟨ma, mc, e2, _⟩ := q6
  exact ⟨b, o, iv, mv, rfl, g0, g1, g2, g3, g4, g5, hR.alike (Alike.of_below hb hS), ⟨ia, ic, e1⟩, ⟨ma, mc, e2⟩⟩

section
variable {B bw : Nat} {w wr : World} {m : List EntM}
theorem Built.extends (h : Built B bw w wr m) (a b : Int) : Calls Tryz.prog 15 #[.pointer (some ⟨bw, 0, none⟩), .int .i64 a, .int .i64 b] wr fun r w' => r = .returned (.bool (extM m a b)) ∧ Below wr.heap.size wr w' := Extends h.hw h.live a b
theorem Built.chain (h : Built B bw w wr m) (a : Nat) (ha : a < m.length) : Calls Tryz.prog 27 #[.pointer (some ⟨bw, 0, none⟩), .int .i64 a] wr fun r w' => ∃ ad c, r = .returned (.tuple #[.slice ad (ch m a).length c, .int .i64 0]) ∧ IntSl (fun b => b < w'.heap.size) w' (.slice ad (ch m a).length c) (ch m a) ∧ Below wr.heap.size wr w' :=
  (Chain h.hw h.live a).mono fun r w' ⟨ad, c, h1, h2, h3⟩ => ⟨ad, c, by rw [h1]; unfold chainM; rw [entAt_nat ha]; unfold ch chainM; rw [entAt_nat ha], h2.mono fun b hb => hb.2, h3⟩
theorem Built.closure (h : Built B bw w wr m) (a : Nat) (ha : a < m.length) : Calls Tryz.prog 66 #[.pointer (some ⟨bw, 0, none⟩), .int .i64 a] wr fun r w' => ∃ ad c, r = .returned (.tuple #[.slice ad (clo m a).length c, .int .i64 0]) ∧ IntSl (fun b => b < w'.heap.size) w' (.slice ad (clo m a).length c) (clo m a) ∧ Below wr.heap.size wr w' :=
  (Closure h.hw a).mono fun r w' ⟨ad, c, h1, h2, h3⟩ => ⟨ad, c, by rw [h1]; unfold closureM; rw [entAt_nat ha]; unfold clo closureM; rw [entAt_nat ha], h2.mono fun b hb => hb.2, h3⟩
theorem Built.isIface (h : Built B bw w wr m) (a : Int) : Calls Tryz.prog 21 #[.pointer (some ⟨bw, 0, none⟩), .int .i64 a] wr fun r w' => r = .returned (.bool (isIfaceM m a)) ∧ Below wr.heap.size wr w' := IsIface h.hw a
theorem Built.super (h : Built B bw w wr m) (a : Int) : Calls Tryz.prog 12 #[.pointer (some ⟨bw, 0, none⟩), .int .i64 a] wr fun r w' => r = .returned (.tuple #[.int .i64 (superM m a).1, .int .i64 (superM m a).2]) ∧ wr = w' := Super h.hw a
end

/-- A slice of numbers stays as it is. -/
theorem IntSl.next {w w' : World} {v : Value} {xs : List Int} (h : IntSl (fun b => b < w.heap.size) w v xs) (hb : Below w.heap.size w w') : IntSl (fun b => b < w'.heap.size) w' v xs :=
  (h.alike (Alike.of_below hb fun _ h => h)).mono fun _ hk => Nat.lt_of_lt_of_le hk hb.size
/-- An element of a slice of numbers. -/
theorem IntSl.elem {S : Nat → Prop} {w : World} {a : Option Addr} {c : Nat} {xs : List Int} (h : IntSl S w (.slice a xs.length c) xs) (h0 : 0 < xs.length) : ∃ b o, a = some ⟨b, o, none⟩ ∧ ∀ i x, xs[i]? = some x → w.cell? ⟨b, o + i, none⟩ = some (.int .i64 x) := by
  obtain ⟨a', c', hf, h2, h3, h4⟩ := h.cells
  injection hf with f1 f2 f3
  subst f1; subst f3
  rcases h4 with rfl | ⟨b, o, rfl, _, h4⟩
  · simp at h0
  · refine ⟨b, o, rfl, fun i x hx => ?_⟩
    obtain ⟨hi, rfl⟩ := List.getElem?_eq_some_iff.1 hx
    exact (h4 i hi).1
end Go.Proofs.YtipinmbpdgjalaaGreatDoor.Hi
/- Small functions of the statements' own: numbers in lists. -/
set_option maxRecDepth 100000
set_option maxHeartbeats 1000000
set_option linter.unusedVariables false
set_option linter.unusedSimpArgs false
namespace Go.Proofs.YtipinmbpdgjalaaGreatDoor.Hi
open Go.RowKit Bs

theorem IntSl.room {S : Nat → Prop} {w : World} {a : Option Addr} {c : Nat} {xs : List Int} (h : IntSl S w (.slice a xs.length c) xs) : xs.length ≤ c ∧ xs.length * 8 ≤ 140737488355328 := by
  obtain ⟨a', c', hf, h2, h3, _⟩ := h.cells
  injection hf with _ _ f3
  subst f3
  exact ⟨h2, h3⟩



theorem IntSl.take {S : Nat → Prop} {w : World} {a : Option Addr} {c : Nat} {xs ys r : List Int} (h : IntSl S w (.slice a xs.length c) xs) (he : xs = ys ++ r) : IntSl S w (.slice a ys.length c) ys := by
  subst he
  obtain ⟨a', c', hf, h2, h3, h4⟩ := h
  injection hf with f1 f2 f3
  subst f1; subst f3
  simp only [List.length_append] at h2 h3
  refine ⟨a, c, rfl, by omega, by omega, ?_⟩
  rcases h4 with h4 | ⟨b, o, e, hS, h4⟩
  · exact .inl (List.append_eq_nil_iff.1 h4).1
  · refine .inr ⟨b, o, e, hS, fun i hi => ?_⟩
    obtain ⟨cs, g1, g2, g3⟩ := h4 i (by simp; omega)
    rw [List.getElem_append_left hi] at g3
    exact ⟨cs, g1, g2, g3⟩
/-- A slice of texts stays as it is. -/
theorem StrSl.next {w w' : World} {v : Value} {xs : List ByteArray} (h : StrSl (fun b => b < w.heap.size) w v xs) (hb : Below w.heap.size w w') : StrSl (fun b => b < w'.heap.size) w' v xs :=
  (StrSl.alike h (Alike.of_below hb fun _ h => h)).mono fun _ hk => Nat.lt_of_lt_of_le hk hb.size
theorem StrSl.elem {S : Nat → Prop} {w : World} {a : Option Addr} {c : Nat} {xs : List ByteArray} (h : StrSl S w (.slice a xs.length c) xs) {k : Nat} (hk : k < xs.length) : xs[k].size ≤ maxLen ∧ ∃ b o, a = some ⟨b, o, none⟩ ∧ w.cell? ⟨b, o + k, none⟩ = some (.string xs[k]) := by
  obtain ⟨a', c', hf, h2, h3, h4⟩ := h
  injection hf with f1 f2 f3
  subst f1; subst f3
  rcases h4 with h4 | ⟨b, o, rfl, hS, h4⟩
  · rw [h4] at hk; simp at hk
  · obtain ⟨cs, g1, g2, rfl, g4⟩ := h4 k hk
    have := g2 0 (by simp)
    exact ⟨g4, b, o, rfl, by simpa using this⟩
theorem Built.drew {B bw : Nat} {w wr : World} {m : List EntM} (h : Built B bw w wr m) : Built B bw w wr.drew m := h.next (Below.drew (Below.refl _ _))
end Go.Proofs.YtipinmbpdgjalaaGreatDoor.Hi
/- Comparisons of the statements' own, of two that are the same. -/
set_option maxRecDepth 100000
set_option maxHeartbeats 1000000
set_option linter.unusedVariables false
set_option linter.unusedSimpArgs false
namespace Go.Proofs.YtipinmbpdgjalaaGreatDoor.Hi
open Go.RowKit Bs




theorem InstSl.elem {S : Nat → Prop} {w : World} {a : Option Addr} {c : Nat} {xs : List InstM} (h : InstSl S w (.slice a xs.length c) xs) {k : Nat} (hk : k < xs.length) : ∃ b o, a = some ⟨b, o, none⟩ ∧ w.cell? ⟨b, o + k * 7, none⟩ = some (.int .i64 xs[k].op) ∧ w.cell? ⟨b, o + k * 7 + 1, none⟩ = some (.int .i64 xs[k].n) ∧ w.cell? ⟨b, o + k * 7 + 2, none⟩ = some (.string xs[k].ty) ∧ w.cell? ⟨b, o + k * 7 + 3, none⟩ = some (.bool xs[k].ref.iface) ∧ w.cell? ⟨b, o + k * 7 + 4, none⟩ = some (.string xs[k].ref.cls) ∧ w.cell? ⟨b, o + k * 7 + 5, none⟩ = some (.string xs[k].ref.name) ∧ w.cell? ⟨b, o + k * 7 + 6, none⟩ = some (.string xs[k].ref.desc) := by
  obtain ⟨a', c', hf, h2, h3, h4⟩ := h
  injection hf with f1 f2 f3
  subst f1; subst f3
  rcases h4 with h4 | ⟨b, o, rfl, hS, h4⟩
  · rw [h4] at hk; simp at hk
  · obtain ⟨cs, g1, g2, rfl, _⟩ := h4 k hk
    exact ⟨b, o, rfl, g2 0 (by simp), g2 1 (by simp), g2 2 (by simp), g2 3 (by simp), g2 4 (by simp), g2 5 (by simp), g2 6 (by simp)⟩



theorem MethSl.elem {S : Nat → Prop} {w : World} {a : Option Addr} {c : Nat} {xs : List MethM} (h : MethSl S w (.slice a xs.length c) xs) {k : Nat} (hk : k < xs.length) : ∃ b o ca cc, a = some ⟨b, o, none⟩ ∧ w.cell? ⟨b, o + k * 6, none⟩ = some (.string xs[k].name) ∧ w.cell? ⟨b, o + k * 6 + 1, none⟩ = some (.string xs[k].desc) ∧ w.cell? ⟨b, o + k * 6 + 2, none⟩ = some (.int .i64 xs[k].flags) ∧ w.cell? ⟨b, o + k * 6 + 3, none⟩ = some (.int .i64 xs[k].locals) ∧ w.cell? ⟨b, o + k * 6 + 4, none⟩ = some (.int .i64 xs[k].stack) ∧ w.cell? ⟨b, o + k * 6 + 5, none⟩ = some (.slice ca xs[k].code.length cc) ∧ InstSl S w (.slice ca xs[k].code.length cc) xs[k].code := by
  obtain ⟨a', c', hf, h2, h3, h4⟩ := h
  injection hf with f1 f2 f3
  subst f1; subst f3
  rcases h4 with h4 | ⟨b, o, rfl, hS, h4⟩
  · rw [h4] at hk; simp at hk
  · obtain ⟨cs, g1, g2, cv, rfl, _, _, _, _, _, g3⟩ := h4 k hk
    have g3' := g3
    obtain ⟨ca, cc, rfl, _⟩ := g3'
    exact ⟨b, o, ca, cc, rfl, g2 0 (by simp), g2 1 (by simp), g2 2 (by simp), g2 3 (by simp), g2 4 (by simp), g2 5 (by simp), g3⟩

end Go.Proofs.YtipinmbpdgjalaaGreatDoor.Hi
