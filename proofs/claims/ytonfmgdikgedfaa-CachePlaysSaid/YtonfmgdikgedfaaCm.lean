/- Caches: plain lists, without program or memory. -/
import Derived.WalkKit
set_option linter.unusedVariables false
set_option linter.unusedSimpArgs false
namespace Go.Proofs.Ytonfmgdikgedfaa.Cm
open Go.RowKit

abbrev KV := Int × Int
/-- How many sets a cache of a capacity has; the set of a key; how many entries a set has room for. -/
def nSets (n : Nat) : Nat := (n + 1) / 2
def setNo (c : Nat) (k : Int) : Nat := (k % (c : Int)).toNat
def roomAt (n i : Nat) : Nat := if n % 2 = 1 ∧ i + 1 = nSets n then 1 else 2
/-- An entry of a key. -/
def ent? (s : List KV) (k : Int) : Option KV := s.find? (fun e => e.1 == k)
/-- All entries but those of a key. -/
def wo (s : List KV) (k : Int) : List KV := s.filter (fun e => e.1 != k)
def getS (s : List KV) (k : Int) : List KV := match ent? s k with | some e => e :: wo s k | none => s
def getV (s : List KV) (k : Int) : Int × Bool := match ent? s k with | some e => (e.2, true) | none => (0, false)
def putS (r : Nat) (s : List KV) (e : KV) : List KV := (e :: wo s e.1).take r
def putD (r : Nat) (s : List KV) (e : KV) : Option KV := (e :: wo s e.1)[r]?

theorem ent_some {s : List KV} {k : Int} {e : KV} (h : ent? s k = some e) : e ∈ s ∧ e.1 = k := by
  unfold ent? at h
  exact ⟨List.mem_of_find?_eq_some h, by simpa using List.find?_some h⟩
theorem ent_none {s : List KV} {k : Int} (h : ent? s k = none) : ∀ e ∈ s, e.1 ≠ k := by
  unfold ent? at h
  rw [List.find?_eq_none] at h
  intro e he
  simpa using h e he
theorem ent_mem {s : List KV} (hs : (s.map (·.1)).Nodup) {e : KV} (he : e ∈ s) : ent? s e.1 = some e := by
  induction s with
  | nil => cases he
  | cons x r ih =>
    rw [List.map_cons, List.nodup_cons] at hs
    unfold ent?
    rw [List.find?_cons]
    rcases List.mem_cons.1 he with rfl | he
    · simp
    · have hne : x.1 ≠ e.1 := fun h => hs.1 (h ▸ List.mem_map.2 ⟨e, he, rfl⟩)
      rw [show (x.1 == e.1) = false by simpa using hne]
      exact ih hs.2 he
theorem wo_mem {s : List KV} {k : Int} {e : KV} : e ∈ wo s k ↔ e ∈ s ∧ e.1 ≠ k := by
  unfold wo
  rw [List.mem_filter]
  simp
theorem wo_none {s : List KV} {k : Int} (h : ent? s k = none) : wo s k = s := by
  unfold wo
  rw [List.filter_eq_self]
  intro e he
  simpa using ent_none h e he
theorem wo_nodup {s : List KV} (hs : (s.map (·.1)).Nodup) (k : Int) : ((wo s k).map (·.1)).Nodup :=
  hs.sublist ((List.filter_sublist (l := s)).map _)
theorem cons_nodup {s : List KV} (hs : (s.map (·.1)).Nodup) (e : KV) : (((e :: wo s e.1)).map (·.1)).Nodup := by
  rw [List.map_cons, List.nodup_cons]
  refine ⟨fun h => ?_, wo_nodup hs _⟩
  obtain ⟨x, hx, h⟩ := List.mem_map.1 h
  exact (wo_mem.1 hx).2 h
theorem wo_len {s : List KV} (hs : (s.map (·.1)).Nodup) {k : Int} {e : KV} (h : ent? s k = some e) : (wo s k).length + 1 = s.length := by
  induction s with
  | nil => cases h
  | cons x r ih =>
    rw [List.map_cons, List.nodup_cons] at hs
    unfold ent? at h
    unfold wo
    rw [List.find?_cons] at h
    rw [List.filter_cons]
    by_cases hx : x.1 = k
    · have hn : ∀ y ∈ r, y.1 ≠ k := fun y hy h => hs.1 (hx ▸ h ▸ List.mem_map.2 ⟨y, hy, rfl⟩)
      rw [show (x.1 != k) = false by simpa using hx, if_neg (by simp)]
      rw [List.filter_eq_self.2 (fun y hy => by simpa using hn y hy)]
      rfl
    · rw [show (x.1 == k) = false by simpa using hx] at h
      rw [show (x.1 != k) = true by simpa using hx, if_pos rfl, List.length_cons, List.length_cons]
      have := ih hs.2 h
      unfold wo at this
      omega
theorem wo_le (s : List KV) (k : Int) : (wo s k).length ≤ s.length := List.length_filter_le _ _
theorem getS_len {s : List KV} (hs : (s.map (·.1)).Nodup) (k : Int) : (getS s k).length = s.length := by
  unfold getS
  cases h : ent? s k with
  | none => rfl
  | some e => exact wo_len hs h
theorem getS_mem {s : List KV} (hs : (s.map (·.1)).Nodup) (k : Int) {e : KV} : e ∈ getS s k ↔ e ∈ s := by
  unfold getS
  cases h : ent? s k with
  | none => exact Iff.rfl
  | some x =>
    obtain ⟨h1, h2⟩ := ent_some h
    rw [List.mem_cons, wo_mem]
    constructor
    · rintro (rfl | ⟨h, _⟩)
      · exact h1
      · exact h
    · intro he
      by_cases hk : e.1 = k
      · have := ent_mem hs he
        rw [hk, h] at this
        exact .inl (Option.some.inj this).symm
      · exact .inr ⟨he, hk⟩
theorem getS_nodup {s : List KV} (hs : (s.map (·.1)).Nodup) (k : Int) : ((getS s k).map (·.1)).Nodup := by
  unfold getS
  cases h : ent? s k with
  | none => exact hs
  | some x =>
    obtain ⟨_, h2⟩ := ent_some h
    have := cons_nodup hs x
    rwa [h2] at this
theorem putS_nodup {s : List KV} (hs : (s.map (·.1)).Nodup) (r : Nat) (e : KV) : ((putS r s e).map (·.1)).Nodup :=
  (cons_nodup hs e).sublist ((List.take_sublist _ _).map _)
theorem putS_mem {s : List KV} {r : Nat} {e x : KV} (h : x ∈ putS r s e) : x = e ∨ (x ∈ s ∧ x.1 ≠ e.1) := by
  have := List.mem_of_mem_take h
  rcases List.mem_cons.1 this with h | h
  · exact .inl h
  · exact .inr (wo_mem.1 h)
theorem putS_head {s : List KV} {r : Nat} (hr : 0 < r) (e : KV) : e ∈ putS r s e := by
  unfold putS
  cases r with
  | zero => omega
  | succ r => simp
theorem putD_some {s : List KV} (hs : (s.map (·.1)).Nodup) {r : Nat} (hr : 0 < r) {e x : KV} (h : putD r s e = some x) : x ∈ s ∧ x.1 ≠ e.1 ∧ ∀ y ∈ putS r s e, y.1 ≠ x.1 := by
  unfold putD at h
  have hm := List.mem_of_getElem? h
  have hx : x ∈ wo s e.1 := by
    rcases List.mem_cons.1 hm with rfl | hm
    · exfalso
      obtain ⟨r, rfl⟩ : ∃ r', r = r' + 1 := ⟨r - 1, by omega⟩
      rw [List.getElem?_cons_succ] at h
      exact (wo_mem.1 (List.mem_of_getElem? h)).2 rfl
    · exact hm
  refine ⟨(wo_mem.1 hx).1, (wo_mem.1 hx).2, fun y hy hyx => ?_⟩
  obtain ⟨j, hj, hjy⟩ := List.getElem_of_mem hy
  have hlt : j < r := by have := List.length_take_le r (e :: wo s e.1); unfold putS at hj; omega
  have hy' : (e :: wo s e.1)[j]? = some y := by
    unfold putS at hjy hj
    rw [List.getElem_take] at hjy
    rw [← hjy]
    exact List.getElem?_eq_getElem _
  have hnd := cons_nodup hs e
  have h1 : ((e :: wo s e.1).map (·.1))[j]? = some y.1 := by rw [List.getElem?_map, hy']; rfl
  have h2 : ((e :: wo s e.1).map (·.1))[r]? = some x.1 := by rw [List.getElem?_map, h]; rfl
  obtain ⟨a1, b1⟩ := List.getElem?_eq_some_iff.1 h1
  obtain ⟨a2, b2⟩ := List.getElem?_eq_some_iff.1 h2
  have := (List.nodup_iff_pairwise_ne.1 hnd)
  have hne := List.pairwise_iff_getElem.1 this j r a1 a2 hlt
  exact hne (by rw [b1, b2, hyx])

/-- A cache: its capacity, its sets (each the last used first), hits and misses. -/
structure CM where
  n : Nat
  sets : List (List KV)
  hit : Int
  miss : Int
structure CM.WF (c : CM) : Prop where
  cap : c.n ≤ 64
  len : c.sets.length = nSets c.n
  room : ∀ i (h : i < c.sets.length), c.sets[i].length ≤ roomAt c.n i
  keys : ∀ i (h : i < c.sets.length), (c.sets[i].map (·.1)).Nodup ∧ ∀ e ∈ c.sets[i], setNo (nSets c.n) e.1 = i

def CM.no (c : CM) (k : Int) : Nat := setNo (nSets c.n) k
def CM.at (c : CM) (k : Int) : List KV := c.sets.getD (c.no k) []
def CM.get (c : CM) (k : Int) : Int × Bool := getV (c.at k) k
def CM.got (c : CM) (k : Int) : CM :=
  { c with sets := c.sets.set (c.no k) (getS (c.at k) k), hit := if (c.get k).2 = true then wrap64 (c.hit + 1) else c.hit, miss := if (c.get k).2 = true then c.miss else wrap64 (c.miss + 1) }
def CM.drop (c : CM) (e : KV) : Option KV := if c.n = 0 then none else putD (roomAt c.n (c.no e.1)) (c.at e.1) e
def CM.put (c : CM) (e : KV) : CM := { c with sets := c.sets.set (c.no e.1) (putS (roomAt c.n (c.no e.1)) (c.at e.1) e) }
def CM.all (c : CM) : List KV := c.sets.flatten
def CM.keys (c : CM) : List Int := c.all.map (·.1)
def CM.clear (c : CM) : CM := { c with sets := List.replicate (nSets c.n) [] }
def newM (n : Nat) : CM := { n := n, sets := List.replicate (nSets n) [], hit := 0, miss := 0 }

theorem roomAt_pos (n i : Nat) : 0 < roomAt n i := by unfold roomAt; split <;> omega
theorem setNo_lt {c : Nat} (h : 0 < c) (k : Int) : setNo c k < c := by
  unfold setNo
  have h1 := Int.emod_lt_of_pos k (show (0 : Int) < (c : Int) by omega)
  have h2 := Int.emod_nonneg k (show (c : Int) ≠ 0 by omega)
  omega
theorem nSets_pos {n : Nat} (h : 0 < n) : 0 < nSets n := by unfold nSets; omega

section
variable {c : CM} (hc : c.WF)
include hc
theorem CM.WF.no_lt (hn : 0 < c.n) (k : Int) : c.no k < c.sets.length := by rw [hc.len]; exact setNo_lt (nSets_pos hn) k
theorem CM.WF.at_eq (hn : 0 < c.n) (k : Int) : c.at k = c.sets[c.no k]'(hc.no_lt hn k) := by
  unfold CM.at
  rw [List.getD_eq_getElem?_getD, List.getElem?_eq_getElem (hc.no_lt hn k)]
  rfl
theorem CM.WF.zero (hn : c.n = 0) : c.sets = [] := by
  have := hc.len
  rw [hn] at this
  exact List.eq_nil_of_length_eq_zero this
theorem CM.WF.at_zero (hn : c.n = 0) (k : Int) : c.at k = [] := by
  unfold CM.at
  rw [hc.zero hn]
  rfl
theorem CM.WF.at_nodup (k : Int) : ((c.at k).map (·.1)).Nodup := by
  by_cases hn : c.n = 0
  · rw [hc.at_zero hn]; simp
  · rw [hc.at_eq (by omega)]
    exact (hc.keys _ _).1
theorem CM.WF.at_no (k : Int) {e : KV} (he : e ∈ c.at k) : c.no e.1 = c.no k := by
  by_cases hn : c.n = 0
  · rw [hc.at_zero hn] at he; cases he
  · rw [hc.at_eq (by omega)] at he
    exact (hc.keys _ _).2 e he
theorem CM.WF.at_len (k : Int) : (c.at k).length ≤ roomAt c.n (c.no k) := by
  by_cases hn : c.n = 0
  · rw [hc.at_zero hn]; simp
  · rw [hc.at_eq (by omega)]
    exact hc.room _ _

/-- One set is laid anew. -/
theorem CM.WF.reset (k : Int) {s : List KV} (h1 : s.length ≤ roomAt c.n (c.no k)) (h2 : (s.map (·.1)).Nodup) (h3 : ∀ e ∈ s, c.no e.1 = c.no k) (h m : Int) :
    CM.WF { c with sets := c.sets.set (c.no k) s, hit := h, miss := m } where
  cap := hc.cap
  len := by simpa using hc.len
  room := fun i hi => by
    simp only [List.length_set] at hi
    simp only [List.getElem_set]
    split
    · rename_i e; subst e; exact h1
    · exact hc.room i hi
  keys := fun i hi => by
    simp only [List.length_set] at hi
    simp only [List.getElem_set]
    split
    · rename_i e; subst e; exact ⟨h2, h3⟩
    · exact hc.keys i hi
theorem CM.WF.got (k : Int) : (c.got k).WF :=
  hc.reset k (by rw [getS_len (hc.at_nodup k)]; exact hc.at_len k) (getS_nodup (hc.at_nodup k) k) (fun e he => hc.at_no k ((getS_mem (hc.at_nodup k) k).1 he)) _ _
theorem CM.WF.put (e : KV) : (c.put e).WF := by
  refine hc.reset e.1 (s := putS (roomAt c.n (c.no e.1)) (c.at e.1) e) (List.length_take_le _ _) (putS_nodup (hc.at_nodup _) _ _) (fun x hx => ?_) c.hit c.miss
  rcases putS_mem hx with rfl | ⟨h, _⟩
  · rfl
  · exact hc.at_no _ h
theorem CM.WF.clear : c.clear.WF where
  cap := hc.cap
  len := by simp [CM.clear]
  room := fun i hi => by simp [CM.clear]
  keys := fun i hi => by simp [CM.clear]

theorem CM.WF.mem_all {e : KV} : e ∈ c.all ↔ e ∈ c.at e.1 := by
  unfold CM.all
  rw [List.mem_flatten]
  by_cases hn : c.n = 0
  · rw [hc.zero hn, hc.at_zero hn]; simp
  · constructor
    · rintro ⟨l, hl, he⟩
      obtain ⟨i, hi, rfl⟩ := List.getElem_of_mem hl
      have := (hc.keys i hi).2 e he
      rw [hc.at_eq (by omega)]
      have e1 : c.no e.1 = i := this
      simp only [e1]
      exact he
    · intro he
      rw [hc.at_eq (by omega)] at he
      exact ⟨_, List.getElem_mem _, he⟩
theorem CM.WF.get_mem {k : Int} (h : (c.get k).2 = true) : (k, (c.get k).1) ∈ c.all := by
  unfold CM.get getV at h ⊢
  cases he : ent? (c.at k) k with
  | none => rw [he] at h; cases h
  | some e =>
    obtain ⟨h1, h2⟩ := ent_some he
    rw [hc.mem_all]
    show (k, e.2) ∈ c.at k
    rw [← h2]
    rw [← h2] at h1
    exact h1
theorem CM.WF.mem_get {e : KV} (h : e ∈ c.all) : c.get e.1 = (e.2, true) := by
  rw [hc.mem_all] at h
  unfold CM.get getV
  rw [ent_mem (hc.at_nodup _) h]
theorem CM.WF.get_none {k : Int} (h : (c.get k).2 = false) : c.get k = (0, false) ∧ ∀ e ∈ c.all, e.1 ≠ k := by
  unfold CM.get getV at h ⊢
  cases he : ent? (c.at k) k with
  | some e => rw [he] at h; cases h
  | none =>
    refine ⟨rfl, fun e h1 h2 => ?_⟩
    rw [hc.mem_all] at h1
    subst h2
    exact ent_none he e h1 rfl
omit hc in
theorem mem_reset {S : List (List KV)} {s : List KV} {i : Nat} (hi : i < S.length) {e : KV} (h : e ∈ (S.set i s).flatten) : e ∈ s ∨ e ∈ S.flatten := by
  rw [List.mem_flatten] at h ⊢
  obtain ⟨l, hl, he⟩ := h
  rcases List.mem_or_eq_of_mem_set hl with h | rfl
  · exact .inr ⟨l, h, he⟩
  · exact .inl he
theorem CM.WF.got_mem (k : Int) {e : KV} (h : e ∈ (c.got k).all) : e ∈ c.all := by
  by_cases hn : c.n = 0
  · have h' : e ∈ (c.sets.set (c.no k) (getS (c.at k) k)).flatten := h
    rw [hc.zero hn] at h'
    simp at h'
  · rcases mem_reset (hc.no_lt (by omega) k) h with h | h
    · have h1 := (getS_mem (hc.at_nodup k) k).1 h
      rw [hc.mem_all]
      have h2 := hc.at_no k h1
      unfold CM.at at h1 ⊢
      rw [h2]
      exact h1
    · exact h
theorem CM.WF.put_mem (e : KV) {x : KV} (h : x ∈ (c.put e).all) : x = e ∨ (x ∈ c.all ∧ x.1 ≠ e.1) := by
  have hp := hc.put e
  by_cases hn : c.n = 0
  · have h' : x ∈ (c.sets.set (c.no e.1) (putS (roomAt c.n (c.no e.1)) (c.at e.1) e)).flatten := h
    rw [hc.zero hn] at h'
    simp at h'
  · have h' := h
    rw [hp.mem_all, hp.at_eq (by show 0 < c.n; omega)] at h'
    have e1 : ((c.put e).sets[(c.put e).no x.1]'(hp.no_lt (by show 0 < c.n; omega) _)) = if c.no e.1 = c.no x.1 then putS (roomAt c.n (c.no e.1)) (c.at e.1) e else c.sets[c.no x.1]'(hc.no_lt (by omega) _) := by
      unfold CM.put
      simp only [List.getElem_set]
      rfl
    rw [e1] at h'
    split at h'
    · rename_i e2
      rcases putS_mem h' with h | ⟨h, h3⟩
      · exact .inl h
      · refine .inr ⟨?_, h3⟩
        rw [hc.mem_all]
        unfold CM.at at h ⊢
        rw [← e2]
        exact h
    · rename_i e2
      rw [← hc.at_eq (by omega)] at h'
      refine .inr ⟨hc.mem_all.2 h', fun h3 => e2 (by rw [h3])⟩
theorem CM.WF.put_has (hn : 0 < c.n) (e : KV) : e ∈ (c.put e).all := by
  have hp := hc.put e
  rw [hp.mem_all, hp.at_eq hn]
  have e1 : ((c.put e).sets[(c.put e).no e.1]'(hp.no_lt hn _)) = putS (roomAt c.n (c.no e.1)) (c.at e.1) e := by
    unfold CM.put
    simp only [List.getElem_set]
    exact if_pos rfl
  rw [e1]
  exact putS_head (roomAt_pos _ _) e
theorem CM.WF.drop_some {e x : KV} (h : c.drop e = some x) : x ∈ c.all ∧ x.1 ≠ e.1 ∧ ∀ y ∈ (c.put e).all, y.1 ≠ x.1 := by
  unfold CM.drop at h
  split at h
  · cases h
  · rename_i hn
    obtain ⟨h1, h2, h3⟩ := putD_some (hc.at_nodup _) (roomAt_pos _ _) h
    have hp := hc.put e
    have e0 := hc.at_no _ h1
    refine ⟨?_, h2, fun y hy hyx => ?_⟩
    · rw [hc.mem_all]
      unfold CM.at at h1 ⊢
      rw [e0]
      exact h1
    · rw [hp.mem_all, hp.at_eq (by show 0 < c.n; omega)] at hy
      have e1 : ((c.put e).sets[(c.put e).no y.1]'(hp.no_lt (by show 0 < c.n; omega) _)) = putS (roomAt c.n (c.no e.1)) (c.at e.1) e := by
        unfold CM.put
        simp only [List.getElem_set]
        refine if_pos ?_
        show c.no e.1 = c.no y.1
        rw [hyx, e0]
      rw [e1] at hy
      exact h3 y hy hyx

theorem CM.WF.keys_nodup : c.keys.Nodup := by
  have key : ∀ (S : List (List KV)) (o : Nat), (∀ i (h : i < S.length), (S[i].map (·.1)).Nodup ∧ ∀ e ∈ S[i], setNo (nSets c.n) e.1 = o + i) → (S.flatten.map (·.1)).Nodup := by
    intro S
    induction S with
    | nil => intro _ _; simp
    | cons s r ih =>
      intro o h
      rw [List.flatten_cons, List.map_append, List.nodup_append]
      refine ⟨(h 0 (by simp)).1, ih (o + 1) fun i hi => ?_, fun a ha b hb hab => ?_⟩
      · have := h (i + 1) (by simpa using hi)
        rw [List.getElem_cons_succ] at this
        exact ⟨this.1, fun e he => by rw [this.2 e he]; omega⟩
      · obtain ⟨x, hx, rfl⟩ := List.mem_map.1 ha
        obtain ⟨y, hy, rfl⟩ := List.mem_map.1 hb
        have h1 := (h 0 (by simp)).2 x hx
        obtain ⟨l, hl, hy⟩ := List.mem_flatten.1 hy
        obtain ⟨j, hj, rfl⟩ := List.getElem_of_mem hl
        have h2 := (h (j + 1) (by simpa using hj)).2 y hy
        rw [hab] at h1
        omega
  refine key c.sets 0 fun i hi => ?_
  rw [Nat.zero_add]
  exact hc.keys i hi
theorem CM.WF.keys_len : c.keys.length ≤ c.n := by
  have key : ∀ (S : List (List KV)) (f : Nat → Nat) (o : Nat), (∀ i (h : i < S.length), S[i].length ≤ f (o + i)) → S.flatten.length ≤ ((List.range S.length).map fun i => f (o + i)).sum := by
    intro S
    induction S with
    | nil => intro _ _ _; simp
    | cons s r ih =>
      intro f o h
      have h0 := h 0 (by simp)
      have h1 := ih f (o + 1) fun i hi => by
        have := h (i + 1) (by simpa using hi)
        rw [List.getElem_cons_succ] at this
        rw [show o + 1 + i = o + (i + 1) by omega]
        exact this
      rw [List.flatten_cons, List.length_append, List.length_cons, List.range_succ_eq_map, List.map_cons, List.sum_cons, List.map_map]
      rw [List.getElem_cons_zero] at h0
      have e1 : ((List.range r.length).map ((fun i => f (o + i)) ∘ Nat.succ)) = (List.range r.length).map fun i => f (o + 1 + i) := by
        apply List.map_congr_left
        intro i _
        show f (o + (i + 1)) = f (o + 1 + i)
        congr 1; omega
      rw [e1]
      omega
  have h1 := key c.sets (roomAt c.n) 0 fun i hi => by rw [Nat.zero_add]; exact hc.room i hi
  have two : ∀ m, m + 1 ≤ nSets c.n → ((List.range m).map fun i => roomAt c.n (0 + i)).sum = 2 * m := by
    intro m hm
    induction m with
    | zero => rfl
    | succ m ih =>
      rw [List.range_succ, List.map_append, List.sum_append, ih (by omega)]
      have : roomAt c.n (0 + m) = 2 := by unfold roomAt; rw [if_neg (by omega)]
      rw [List.map_singleton, List.sum_singleton, this]
      omega
  rw [CM.keys, List.length_map, CM.all]
  refine Nat.le_trans h1 ?_
  rw [hc.len]
  rcases Nat.eq_zero_or_pos c.n with h | h
  · rw [h]; decide
  · obtain ⟨m, hm⟩ : ∃ m, nSets c.n = m + 1 := ⟨nSets c.n - 1, by have := nSets_pos h; omega⟩
    rw [hm, List.range_succ, List.map_append, List.sum_append, two m (by omega)]
    have : roomAt c.n (0 + m) = if c.n % 2 = 1 then 1 else 2 := by
      unfold roomAt
      rw [hm]
      by_cases h2 : c.n % 2 = 1 <;> simp [h2]
    simp only [List.map_cons, List.map_nil, List.sum_cons, List.sum_nil, this]
    unfold nSets at hm
    split <;> omega
end
theorem new_wf {n : Nat} (h : n ≤ 64) : (newM n).WF where
  cap := h
  len := by simp [newM]
  room := fun i hi => by simp [newM]
  keys := fun i hi => by simp [newM]
theorem new_all (n : Nat) : (newM n).all = [] := by simp [CM.all, newM]
theorem clear_all (c : CM) : c.clear.all = [] := by simp [CM.all, CM.clear]
end Go.Proofs.Ytonfmgdikgedfaa.Cm
