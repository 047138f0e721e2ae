/- The plain law: how classes that arrive lie above one another. -/
import Derived.Test.YtmpkdgankficeaaDoorDg
set_option maxRecDepth 100000
set_option maxHeartbeats 1000000
set_option linter.unusedVariables false
set_option linter.unusedSimpArgs false
namespace Go.Proofs.YtmpkdgankficeaaDoor.Hi
open Go.RowKit Bs

/-- Each stands behind all that are in its own closure. -/
def Ordered (m : List EntM) (cl : List Int) : Prop := ∀ j (h : j < cl.length), ∀ y ∈ closAt m cl[j], y ∈ cl.take j

theorem addNew_mem {cl : List Int} {x y : Int} : x ∈ addNew cl y ↔ x ∈ cl ∨ x = y := by
  unfold addNew
  by_cases h : cl.contains y = true
  · rw [if_pos h]
    have : y ∈ cl := by simpa using h
    constructor
    · exact .inl
    · rintro (h | rfl)
      · exact h
      · exact this
  · rw [if_neg h]; simp
theorem addNew_pre (cl : List Int) (y : Int) : ∃ r, addNew cl y = cl ++ r := by
  unfold addNew
  split
  · exact ⟨[], by simp⟩
  · exact ⟨[y], rfl⟩
theorem addNew_ord {m : List EntM} {cl : List Int} {y : Int} (h : Ordered m cl) (hy : ∀ z ∈ closAt m y, z ∈ cl) : Ordered m (addNew cl y) := by
  unfold addNew
  split
  · exact h
  · intro j hj z hz
    by_cases e : j < cl.length
    · rw [List.getElem_append_left e] at hz
      rw [List.take_append_of_le_length (by omega)]
      exact h j e z hz
    · have e' : j = cl.length := by simp at hj; omega
      subst e'
      simp only [List.getElem_concat_length] at hz
      rw [List.take_left']
      · exact hy z hz
      · rfl

theorem foldAdd {m : List EntM} : ∀ (l cl : List Int), Ordered m cl → (∀ j (h : j < l.length), ∀ z ∈ closAt m l[j], z ∈ cl ∨ z ∈ l.take j) →
    Ordered m (l.foldl addNew cl) ∧ (∀ x, x ∈ l.foldl addNew cl ↔ x ∈ cl ∨ x ∈ l) ∧ ∃ r, l.foldl addNew cl = cl ++ r
  | [], cl, h, _ => ⟨h, by simp, [], by simp⟩
  | y :: r, cl, h, hl => by
    obtain ⟨h1, h2, r', h3⟩ := foldAdd r (addNew cl y) (addNew_ord h fun z hz => by
      have := hl 0 (by simp) z hz
      simpa using this) (fun j hj z hz => by
      have := hl (j + 1) (by simp; omega) z (by simpa using hz)
      rw [List.take_succ_cons] at this
      rcases this with h | h
      · exact .inl (addNew_mem.2 (.inl h))
      · rcases List.mem_cons.1 h with rfl | h
        · exact .inl (addNew_mem.2 (.inr rfl))
        · exact .inr h)
    obtain ⟨r'', h4⟩ := addNew_pre cl y
    refine ⟨h1, fun x => ?_, r'' ++ r', ?_⟩
    · show x ∈ r.foldl addNew (addNew cl y) ↔ _
      rw [h2 x, addNew_mem, List.mem_cons, or_assoc]
    · show r.foldl addNew (addNew cl y) = _
      rw [h3, h4, List.append_assoc]

theorem stepC_all {m : List EntM} {cl : List Int} {i : Int} (h : Ordered m cl) (hi : Ordered m (closAt m i)) :
    Ordered m (stepC m cl i) ∧ (∀ x, x ∈ stepC m cl i ↔ x ∈ cl ∨ x = i ∨ x ∈ closAt m i) ∧ ∃ r, stepC m cl i = cl ++ r := by
  obtain ⟨h1, h2, r, h3⟩ := foldAdd (m := m) (closAt m i) cl h fun j hj z hz => .inr (hi j hj z hz)
  unfold stepC
  obtain ⟨r', h4⟩ := addNew_pre ((closAt m i).foldl addNew cl) i
  refine ⟨addNew_ord h1 fun z hz => (h2 z).2 (.inr hz), fun x => ?_, r ++ r', ?_⟩
  · rw [addNew_mem, h2 x]
    constructor
    · rintro ((h | h) | h)
      · exact .inl h
      · exact .inr (.inr h)
      · exact .inr (.inl h)
    · rintro (h | h | h)
      · exact .inl (.inl h)
      · exact .inr h
      · exact .inl (.inr h)
  · rw [h4, h3, List.append_assoc]

theorem steps_all {m : List EntM} : ∀ (is cl : List Int), Ordered m cl → (∀ i ∈ is, Ordered m (closAt m i)) →
    Ordered m (is.foldl (stepC m) cl) ∧ (∀ x, x ∈ is.foldl (stepC m) cl ↔ x ∈ cl ∨ ∃ i ∈ is, x = i ∨ x ∈ closAt m i) ∧ ∃ r, is.foldl (stepC m) cl = cl ++ r
  | [], cl, h, _ => ⟨h, by simp, [], by simp⟩
  | i :: is, cl, h, hi => by
    obtain ⟨a1, a2, r, a3⟩ := stepC_all h (hi i (by simp))
    obtain ⟨b1, b2, r', b3⟩ := steps_all is (stepC m cl i) a1 fun j hj => hi j (by simp [hj])
    refine ⟨b1, fun x => ?_, r ++ r', ?_⟩
    · show x ∈ is.foldl (stepC m) (stepC m cl i) ↔ _
      rw [b2 x, a2 x]
      constructor
      · rintro ((h | h) | ⟨j, hj, h⟩)
        · exact .inl h
        · exact .inr ⟨i, by simp, h⟩
        · exact .inr ⟨j, by simp [hj], h⟩
      · rintro (h | ⟨j, hj, h⟩)
        · exact .inl (.inl h)
        · rcases List.mem_cons.1 hj with rfl | hj
          · exact .inl (.inr h)
          · exact .inr ⟨j, hj, h⟩
    · show is.foldl (stepC m) (stepC m cl i) = _
      rw [b3, a3, List.append_assoc]

theorem clsAt_app {m : List EntM} {e : EntM} {i : Nat} (h : i < m.length) : clsAt (m ++ [e]) i = clsAt m i := by
  unfold clsAt; rw [List.getElem?_append_left h]
theorem closAt_app {m : List EntM} {e : EntM} {x : Int} (h : x.toNat < m.length) : closAt (m ++ [e]) x = closAt m x := by
  unfold closAt; rw [List.getElem?_append_left h]
theorem Ordered.app {m : List EntM} {e : EntM} {cl : List Int} (h : Ordered m cl) (hc : ∀ x ∈ cl, 0 ≤ x ∧ x < m.length) : Ordered (m ++ [e]) cl := by
  intro j hj y hy
  have := hc _ (List.getElem_mem hj)
  rw [closAt_app (by omega)] at hy
  exact h j hj y hy
theorem nameIx_app {m : List EntM} {e : EntM} {s : ByteArray} {y : Nat} (h : nameIx m s = some y) : nameIx (m ++ [e]) s = some y := by
  rw [nameIx_append, h]; rfl

/-- How classes that arrived lie above one another. -/
structure OrdM (m : List EntM) : Prop where
  short : ∀ e ∈ m, e.c.name.size ≤ 1000
  root : 0 < m.length ∧ Pr.isIfc (clsAt m 0) = false ∧ closAt m 0 = [] ∧ (clsAt m 0).ifaces = []
  sup : ∀ i (h : i < m.length), 0 < i → Pr.isIfc (clsAt m m[i].above.toNat) = false ∧ (Pr.isIfc m[i].c = true → m[i].above = 0)
  ifc : ∀ i (h : i < m.length), ∀ x ∈ m[i].closure, Pr.isIfc (clsAt m x.toNat) = true
  ord : ∀ i (h : i < m.length), Ordered m m[i].closure
  pre : ∀ i (h : i < m.length), 0 < i → ∃ r, m[i].closure = closAt m m[i].above ++ r
  why : ∀ i (h : i < m.length), 0 < i → ∀ x ∈ m[i].closure, x ∈ closAt m m[i].above ∨ ∃ s ∈ m[i].c.ifaces, ∃ y : Nat, nameIx m s = some y ∧ (x = y ∨ x ∈ closAt m y)
  own : ∀ i (h : i < m.length), ∀ s ∈ m[i].c.ifaces, ∃ y : Nat, nameIx m s = some y ∧ (y : Int) ∈ m[i].closure

theorem aboveE_zero {p c : ClsM} {i : Nat} {want : Bool} (h : aboveE p c i want = 0) : Pr.isIfc p = want ∧ (want = false → Pr.isIfc c = true → i = 0) := by
  unfold aboveE at h
  split at h
  · cases h
  · rename_i hn
    cases hp : Pr.isIfc p <;> cases want <;> cases hc : Pr.isIfc c <;> simp_all

/-- What a class that arrives has met. -/
theorem defE_zero {m : List EntM} {c : ClsM} (h : defE m c = 0) : Pr.chk c = true ∧ m.length < 300 ∧ nameIx m c.name = none ∧
    (∃ p : Nat, p < m.length ∧ nameIx m c.super = some p ∧ supOf m c = p ∧ Pr.isIfc (clsAt m p) = false ∧ (Pr.isIfc c = true → p = 0)) ∧
    ∀ s ∈ c.ifaces, ∃ y : Nat, y < m.length ∧ nameIx m s = some y ∧ (aboveM m c s true).1 = y ∧ Pr.isIfc (clsAt m y) = true := by
  unfold defE at h
  split at h
  · cases h
  rename_i h1
  split at h
  · cases h
  rename_i h2
  split at h
  · cases h
  rename_i h3
  split at h
  · rename_i h4; exact absurd h h4
  rename_i h4
  have h4' : (aboveM m c c.super false).2 = 0 := by omega
  refine ⟨by simpa using h1, by omega, by simpa using h3, ?_, fun s hs => ?_⟩
  · obtain ⟨i, e1, e2, e3, e4⟩ := aboveM_ok h4'
    obtain ⟨e5, e6⟩ := aboveE_zero e4
    exact ⟨i, e2, e1, e3, e5, e6 rfl⟩
  · obtain ⟨i, e1, e2, e3, e4⟩ := aboveM_ok (ifcE_all h s hs)
    obtain ⟨e5, _⟩ := aboveE_zero e4
    exact ⟨i, e2, e1, e3, e5⟩

theorem OrdM.step {m : List EntM} (hw : WFm m) (h : OrdM m) {c : ClsM} (hd : defE m c = 0) : OrdM (m ++ [entOf m c]) := by
  obtain ⟨hchk, hlen, hnew, ⟨p, hp, hpn, hps, hpi, hpc⟩, hifs⟩ := defE_zero hd
  have hab : (entOf m c).above = p := hps
  have hcl : (entOf m c).c = c := rfl
  have hin : ∀ y ∈ ifsOf m c, ∃ s ∈ c.ifaces, ∃ k : Nat, k < m.length ∧ nameIx m s = some k ∧ y = k ∧ Pr.isIfc (clsAt m k) = true := fun y hy => by
    obtain ⟨s, hs, rfl⟩ := List.mem_map.1 hy
    obtain ⟨k, e1, e2, e3, e4⟩ := hifs s hs
    exact ⟨s, hs, k, e1, e2, e3, e4⟩
  have hclo : (entOf m c).closure = (ifsOf m c).foldl (stepC m) (closAt m p) := by
    show List.foldl _ (if supOf m c < 0 then [] else closAt m (supOf m c)) _ = _
    rw [hps, if_neg (by omega)]
  have hordAt : ∀ k : Nat, k < m.length → Ordered m (closAt m k) := fun k hk => by rw [closAt_at hk]; exact h.ord k hk
  obtain ⟨s1, s2, r, s3⟩ := steps_all (m := m) (ifsOf m c) (closAt m p) (hordAt p hp) fun i hi => by
    obtain ⟨s, _, k, hk, _, rfl, _⟩ := hin i hi
    exact hordAt k hk
  rw [← hclo] at s1 s2 s3
  have hcIn : ∀ k : Nat, k < m.length → ∀ x ∈ closAt m k, 0 ≤ x ∧ x < m.length := fun k hk x hx => by
    rw [closAt_at hk] at hx
    have := (hw.closed k hk).2 x hx
    omega
  have hIn : ∀ x ∈ (entOf m c).closure, 0 ≤ x ∧ x < m.length := fun x hx => by
    rcases (s2 x).1 hx with hx | ⟨i, hi, hx⟩
    · exact hcIn p hp x hx
    · obtain ⟨s, _, k, hk, _, rfl, _⟩ := hin i hi
      rcases hx with rfl | hx
      · omega
      · exact hcIn k hk x hx
  have hIfc : ∀ x ∈ (entOf m c).closure, Pr.isIfc (clsAt m x.toNat) = true := fun x hx => by
    rcases (s2 x).1 hx with hx | ⟨i, hi, hx⟩
    · rw [closAt_at hp] at hx; exact h.ifc p hp x hx
    · obtain ⟨s, _, k, hk, _, rfl, hk2⟩ := hin i hi
      rcases hx with rfl | hx
      · simpa using hk2
      · rw [closAt_at hk] at hx; exact h.ifc k hk x hx
  have hold : ∀ i (hi : i < m.length) (hi' : i < (m ++ [entOf m c]).length), (m ++ [entOf m c])[i] = m[i] := fun i hi _ => List.getElem_append_left hi
  have hnewI : ∀ (hi' : m.length < (m ++ [entOf m c]).length), (m ++ [entOf m c])[m.length] = entOf m c := fun _ => by simp
  have hcase : ∀ i, i < (m ++ [entOf m c]).length → i < m.length ∨ i = m.length := fun i hi => by simp at hi; omega
  have habs : ∀ i (hi : i < m.length), m[i].above.toNat < m.length := fun i hi => by have := (hw.above i hi).2.1; omega
  refine ⟨?_, ?_, ?_, ?_, ?_, ?_, ?_, ?_⟩
  · intro e he
    rcases List.mem_append.1 he with he | he
    · exact h.short e he
    · rw [List.mem_singleton.1 he, hcl]
      have := chk_name hchk
      omega
  · obtain ⟨r1, r2, r3, r4⟩ := h.root
    exact ⟨by simp, by rw [clsAt_app r1]; exact r2, by rw [closAt_app (by simpa using r1)]; exact r3, by rw [clsAt_app r1]; exact r4⟩
  · intro i hi h0
    rcases hcase i hi with h1 | rfl
    · rw [hold i h1 hi, clsAt_app (habs i h1)]
      exact h.sup i h1 h0
    · rw [hnewI hi, hab, hcl]
      refine ⟨by rw [clsAt_app (by simpa using hp)]; simpa using hpi, fun hc => by rw [hpc hc]; rfl⟩
  · intro i hi x hx
    rcases hcase i hi with h1 | rfl
    · rw [hold i h1 hi] at hx
      have := (hw.closed i h1).2 x hx
      rw [clsAt_app (by omega)]
      exact h.ifc i h1 x hx
    · rw [hnewI hi] at hx
      have := hIn x hx
      rw [clsAt_app (by omega)]
      exact hIfc x hx
  · intro i hi
    rcases hcase i hi with h1 | rfl
    · rw [hold i h1 hi]
      exact (h.ord i h1).app fun x hx => by have := (hw.closed i h1).2 x hx; omega
    · rw [hnewI hi]
      exact s1.app hIn
  · intro i hi h0
    rcases hcase i hi with h1 | rfl
    · rw [hold i h1 hi, closAt_app (habs i h1)]
      exact h.pre i h1 h0
    · rw [hnewI hi, hab, closAt_app (by simpa using hp)]
      exact ⟨r, s3⟩
  · intro i hi h0 x hx
    rcases hcase i hi with h1 | rfl
    · rw [hold i h1 hi] at hx ⊢
      rcases h.why i h1 h0 x hx with hx | ⟨s, hs, y, e1, e2⟩
      · left; rw [closAt_app (habs i h1)]; exact hx
      · have hy := nameIx_lt e1
        refine .inr ⟨s, hs, y, nameIx_app e1, ?_⟩
        rw [closAt_app (by simpa using hy)]
        exact e2
    · rw [hnewI hi] at hx ⊢
      rw [hab, hcl, closAt_app (by simpa using hp)]
      rcases (s2 x).1 hx with hx | ⟨j, hj, hx⟩
      · exact .inl hx
      · obtain ⟨s, hs, k, hk, hkn, rfl, _⟩ := hin j hj
        refine .inr ⟨s, hs, k, nameIx_app hkn, ?_⟩
        rw [closAt_app (by simpa using hk)]
        exact hx
  · intro i hi s hs
    rcases hcase i hi with h1 | rfl
    · rw [hold i h1 hi] at hs ⊢
      obtain ⟨y, e1, e2⟩ := h.own i h1 s hs
      exact ⟨y, nameIx_app e1, e2⟩
    · rw [hnewI hi] at hs ⊢
      rw [hcl] at hs
      obtain ⟨y, e1, e2, e3, _⟩ := hifs s hs
      exact ⟨y, nameIx_app e2, (s2 y).2 (.inr ⟨y, List.mem_map.2 ⟨s, hs, e3⟩, .inl rfl⟩)⟩

theorem ordM_start : OrdM startM := by
  have hl : startM.length = 3 := startAt_len 2
  have hc : ∀ i (h : i < startM.length), startM[i].closure = [] ∧ startM[i].c.ifaces = [] ∧ startM[i].c.name.size ≤ 1000 := by decide
  have ha : ∀ i (h : i < startM.length), 0 < i → startM[i].above = 0 := by decide
  have h0 : Pr.isIfc (clsAt startM 0) = false := by decide
  refine ⟨fun e he => ?_, ⟨by omega, h0, by rw [show (0 : Int) = ((0 : Nat) : Int) from rfl, closAt_at (by omega)]; exact (hc 0 (by omega)).1, by rw [clsAt_at (by omega)]; exact (hc 0 (by omega)).2.1⟩, fun i h hi => ?_, fun i h x hx => ?_, fun i h => ?_, fun i h hi => ?_, fun i h hi x hx => ?_, fun i h s hs => ?_⟩
  · obtain ⟨i, hi, rfl⟩ := List.getElem_of_mem he
    exact (hc i hi).2.2
  · rw [ha i h hi]
    exact ⟨h0, fun _ => rfl⟩
  · rw [(hc i h).1] at hx; cases hx
  · rw [(hc i h).1]; intro j hj; simp at hj
  · rw [(hc i h).1, ha i h hi, show (0 : Int) = ((0 : Nat) : Int) from rfl, closAt_at (by omega), (hc 0 (by omega)).1]
    exact ⟨[], rfl⟩
  · rw [(hc i h).1] at hx; cases hx
  · rw [(hc i h).2.1] at hs; cases hs
end Go.Proofs.YtmpkdgankficeaaDoor.Hi
