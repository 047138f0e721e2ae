/- Caches: the document's list of all entries beside the sets. -/
import Derived.Test.YtonfmgdikgedfaaCm
set_option linter.unusedVariables false
set_option linter.unusedSimpArgs false
namespace Go.Proofs.Ytonfmgdikgedfaa.Cm
open Go.RowKit

/-- The last place at which p holds (0 where it holds nowhere). -/
def lastIx (p : KV → Bool) : List KV → Nat
  | [] => 0
  | _ :: r => if r.any p then lastIx p r + 1 else 0
theorem lastIx_snoc (p : KV → Bool) (l : List KV) (x : KV) : lastIx p (l ++ [x]) = if p x then l.length else lastIx p l := by
  induction l with
  | nil => simp [lastIx]
  | cons y r ih =>
    rw [List.cons_append]
    unfold lastIx
    rw [List.any_append, ih]
    rw [List.any_cons, List.any_nil, Bool.or_false]
    cases p x with
    | true => simp
    | false => cases r.any p <;> rfl
theorem lastIx_split (p : KV → Bool) (l : List KV) (h : l.any p = true) : ∃ A x B, l = A ++ x :: B ∧ A.length = lastIx p l ∧ p x = true ∧ ∀ y ∈ B, p y = false := by
  induction l with
  | nil => cases h
  | cons y r ih =>
    by_cases hr : r.any p = true
    · obtain ⟨A, x, B, h1, h2, h3, h4⟩ := ih hr
      refine ⟨y :: A, x, B, by rw [h1]; rfl, ?_, h3, h4⟩
      unfold lastIx
      rw [if_pos hr, ← h2]
      rfl
    · refine ⟨[], y, r, rfl, ?_, ?_, ?_⟩
      · unfold lastIx
        rw [if_neg hr]
        rfl
      · rw [List.any_cons] at h
        simpa [hr] using h
      · intro z hz
        rw [Bool.eq_false_iff]
        intro hp
        exact hr (List.any_eq_true.2 ⟨z, hz, hp⟩)

/-- The document's cache: all entries, the last used first. -/
structure RM where
  n : Nat
  L : List KV
  hit : Int
  miss : Int
def RM.same (x : RM) (k : Int) (e : KV) : Bool := setNo (nSets x.n) e.1 == setNo (nSets x.n) k
def RM.t (x : RM) (e : KV) : List KV := e :: wo x.L e.1
def RM.full (x : RM) (e : KV) : Bool := (ent? x.L e.1).isNone && decide (roomAt x.n (setNo (nSets x.n) e.1) < ((x.t e).filter (x.same e.1)).length)
def RM.got (x : RM) (k : Int) : RM :=
  { x with L := getS x.L k, hit := if (getV x.L k).2 = true then wrap64 (x.hit + 1) else x.hit, miss := if (getV x.L k).2 = true then x.miss else wrap64 (x.miss + 1) }
def RM.last (x : RM) (e : KV) : Nat := lastIx (x.same e.1) (x.t e)
def RM.put (x : RM) (e : KV) : RM := if x.n = 0 then x else if x.full e = true then { x with L := (x.t e).eraseIdx (x.last e) } else { x with L := x.t e }
def RM.drop (x : RM) (e : KV) : Option KV := if x.n = 0 then none else if x.full e = true then (x.t e)[x.last e]? else none
def RM.all (x : RM) : List Int := ((List.range (nSets x.n)).map fun i => (x.L.filter fun e => setNo (nSets x.n) e.1 == i).map (·.1)).flatten
def RM.clear (x : RM) : RM := { x with L := [] }

/-- The two tell the same. -/
structure Tell (c : CM) (x : RM) : Prop where
  wf : c.WF
  n : x.n = c.n
  hit : x.hit = c.hit
  miss : x.miss = c.miss
  keys : (x.L.map (·.1)).Nodup
  zero : c.n = 0 → x.L = []
  sets : ∀ i (h : i < c.sets.length), x.L.filter (fun e => setNo (nSets c.n) e.1 == i) = c.sets[i]

theorem ent_filter {L : List KV} {k : Int} {p : KV → Bool} (h : ∀ e : KV, e.1 = k → p e = true) : ent? (L.filter p) k = ent? L k := by
  unfold ent?
  rw [List.find?_filter]
  congr 1
  funext e
  by_cases he : e.1 = k
  · simp [he, h e he]
  · simp [he]
theorem wo_filter (L : List KV) (k : Int) (p : KV → Bool) : (wo L k).filter p = wo (L.filter p) k := by
  unfold wo
  rw [List.filter_filter, List.filter_filter]
  congr 1
  funext e
  exact Bool.and_comm _ _

section
variable {c : CM} {x : RM} (h : Tell c x)
include h
theorem Tell.at (k : Int) : c.at k = x.L.filter (fun e => setNo (nSets c.n) e.1 == c.no k) := by
  by_cases hn : c.n = 0
  · rw [h.wf.at_zero hn, h.zero hn]; rfl
  · rw [h.wf.at_eq (by omega), h.sets]
theorem Tell.ent (k : Int) : ent? (c.at k) k = ent? x.L k := by
  rw [h.at k]
  exact ent_filter fun e he => by subst he; simp [CM.no]
theorem Tell.get (k : Int) : getV x.L k = c.get k := by
  unfold CM.get getV
  rw [h.ent k]
theorem Tell.got (k : Int) : Tell (c.got k) (x.got k) where
  wf := h.wf.got k
  n := h.n
  hit := by show (if (getV x.L k).2 = true then wrap64 (x.hit + 1) else x.hit) = _; rw [h.get k, h.hit]; rfl
  miss := by show (if (getV x.L k).2 = true then x.miss else wrap64 (x.miss + 1)) = _; rw [h.get k, h.miss]; rfl
  keys := getS_nodup h.keys k
  zero := fun hn => by
    show getS x.L k = []
    rw [h.zero hn]
    rfl
  sets := fun i hi => by
    have hi' : i < c.sets.length := by simpa [CM.got] using hi
    show (getS x.L k).filter (fun e => setNo (nSets c.n) e.1 == i) = (c.sets.set (c.no k) (getS (c.at k) k))[i]'(by simpa using hi')
    rw [List.getElem_set]
    have he := h.ent k
    unfold getS
    rw [he]
    cases hE : ent? x.L k with
    | none =>
      simp only
      rw [h.sets i hi']
      split
      · rename_i e; subst e
        exact (h.wf.at_eq (by
          rcases Nat.eq_zero_or_pos c.n with h0 | h0
          · rw [h.wf.zero h0] at hi'; simp at hi'
          · exact h0) k).symm
      · rfl
    | some e =>
      obtain ⟨_, e2⟩ := ent_some hE
      simp only
      rw [List.filter_cons, wo_filter, h.sets i hi', h.at k, e2]
      split
      · rename_i g
        have g' : c.no k = i := (beq_iff_eq.1 g : setNo (nSets c.n) k = i)
        rw [if_pos g', g', h.sets i hi']
      · rename_i g
        have g' : c.no k ≠ i := fun g' => g (beq_iff_eq.2 g')
        rw [if_neg g']
        unfold wo
        rw [List.filter_eq_self]
        intro y hy
        have hy2 := (h.wf.keys i hi').2 y hy
        simp only [bne_iff_ne, ne_eq]
        intro hk
        exact g' (by rw [← hy2]; unfold CM.no; rw [hk])
theorem Tell.t_at (e : KV) : (x.t e).filter (x.same e.1) = e :: wo (c.at e.1) e.1 := by
  unfold RM.t RM.same
  rw [List.filter_cons, if_pos (by simp), wo_filter, h.at, h.n]
  rfl
theorem Tell.t_other (e : KV) {i : Nat} (hi : i < c.sets.length) (hne : c.no e.1 ≠ i) : (x.t e).filter (fun y => setNo (nSets c.n) y.1 == i) = c.sets[i] := by
  unfold RM.t
  rw [List.filter_cons, if_neg (fun g => hne (beq_iff_eq.1 g : setNo (nSets c.n) e.1 = i)), wo_filter, h.sets i hi]
  unfold wo
  rw [List.filter_eq_self]
  intro y hy
  have hy2 := (h.wf.keys i hi).2 y hy
  simp only [bne_iff_ne, ne_eq]
  intro hk
  exact hne (by rw [← hy2]; unfold CM.no; rw [hk])
theorem Tell.put (e : KV) : Tell (c.put e) (x.put e) ∧ x.drop e = c.drop e := by
  by_cases hn : c.n = 0
  · have e1 : x.put e = x := by unfold RM.put; rw [if_pos (h.n.trans hn)]
    have e2 : x.drop e = none := by unfold RM.drop; rw [if_pos (h.n.trans hn)]
    have e3 : c.drop e = none := by unfold CM.drop; rw [if_pos hn]
    rw [e1, e2, e3]
    refine ⟨⟨h.wf.put e, h.n, h.hit, h.miss, h.keys, h.zero, fun i hi => ?_⟩, rfl⟩
    have hi' : i < c.sets.length := by simpa [CM.put] using hi
    rw [h.wf.zero hn] at hi'
    simp at hi'
  · have hxn : ¬ x.n = 0 := by rw [h.n]; exact hn
    have hp : 0 < c.n := by omega
    have hT := h.t_at e
    have hlen := h.wf.at_len e.1
    have hnd := cons_nodup (h.wf.at_nodup e.1) e
    have hndx := cons_nodup h.keys e
    have hr : roomAt x.n (setNo (nSets x.n) e.1) = roomAt c.n (c.no e.1) := by rw [h.n]; rfl
    have hfull : x.full e = ((ent? (c.at e.1) e.1).isNone && decide (roomAt c.n (c.no e.1) < (e :: wo (c.at e.1) e.1).length)) := by
      unfold RM.full
      rw [hT, hr, h.ent]
    have hset : ∀ i (hi : i < (c.put e).sets.length), (c.put e).sets[i] = if c.no e.1 = i then putS (roomAt c.n (c.no e.1)) (c.at e.1) e else c.sets[i]'(by simpa [CM.put] using hi) := fun i hi => by
      have hi' : i < (c.sets.set (c.no e.1) (putS (roomAt c.n (c.no e.1)) (c.at e.1) e)).length := hi
      show (c.sets.set (c.no e.1) (putS (roomAt c.n (c.no e.1)) (c.at e.1) e))[i]'hi' = _
      rw [List.getElem_set]
    have hsame : ∀ i, c.no e.1 = i → (fun y : KV => setNo (nSets c.n) y.1 == i) = x.same e.1 := fun i g => by
      funext y
      unfold RM.same
      rw [h.n, ← g]
      rfl
    cases hF : x.full e with
    | false =>
      have e1 : x.put e = { x with L := x.t e } := by unfold RM.put; rw [if_neg hxn, if_neg (by simp [hF])]
      have e2 : x.drop e = none := by unfold RM.drop; rw [if_neg hxn, if_neg (by simp [hF])]
      have hle : (e :: wo (c.at e.1) e.1).length ≤ roomAt c.n (c.no e.1) := by
        rw [hfull] at hF
        cases hE : ent? (c.at e.1) e.1 with
        | none => rw [hE] at hF; simpa using hF
        | some y =>
          have := wo_len (h.wf.at_nodup e.1) hE
          rw [List.length_cons]
          omega
      have e3 : c.drop e = none := by
        unfold CM.drop putD
        rw [if_neg hn]
        exact List.getElem?_eq_none hle
      rw [e1, e2, e3]
      refine ⟨⟨h.wf.put e, h.n, h.hit, h.miss, hndx, fun h0 => absurd h0 hn, fun i hi => ?_⟩, rfl⟩
      show (x.t e).filter (fun y => setNo (nSets c.n) y.1 == i) = _
      rw [hset i hi]
      split
      · rename_i g
        rw [hsame i g, hT]
        unfold putS
        rw [List.take_of_length_le hle]
      · rename_i g
        exact h.t_other e (by simpa [CM.put] using hi) g
    | true =>
      have e1 : x.put e = { x with L := (x.t e).eraseIdx (x.last e) } := by unfold RM.put; rw [if_neg hxn, if_pos hF]
      have e2 : x.drop e = (x.t e)[x.last e]? := by unfold RM.drop; rw [if_neg hxn, if_pos hF]
      have hany : (x.t e).any (x.same e.1) = true := by
        unfold RM.t
        rw [List.any_cons]
        simp [RM.same]
      obtain ⟨A, y, B, h1, h2, h3, h4⟩ := lastIx_split _ _ hany
      have h2' : A.length = x.last e := h2
      have hB : B.filter (x.same e.1) = [] := by
        rw [List.filter_eq_nil_iff]
        intro z hz
        rw [h4 z hz]
        simp
      have hTs : e :: wo (c.at e.1) e.1 = A.filter (x.same e.1) ++ [y] := by
        rw [← hT, h1, List.filter_append, List.filter_cons, if_pos h3, hB]
      rw [hfull, Bool.and_eq_true, Option.isNone_iff_eq_none, decide_eq_true_iff] at hF
      obtain ⟨hE, hgt⟩ := hF
      have hlen2 : (e :: wo (c.at e.1) e.1).length = roomAt c.n (c.no e.1) + 1 := by
        have := wo_le (c.at e.1) e.1
        rw [List.length_cons] at hgt ⊢
        omega
      have hAl : (A.filter (x.same e.1)).length = roomAt c.n (c.no e.1) := by
        rw [hTs, List.length_append, List.length_singleton] at hlen2
        omega
      have e3 : c.drop e = some y := by
        unfold CM.drop putD
        rw [if_neg hn, hTs, List.getElem?_append_right (by omega), hAl]
        simp
      have e4 : (x.t e)[x.last e]? = some y := by
        rw [h1, ← h2', List.getElem?_append_right (Nat.le_refl _)]
        simp
      have e5 : (x.t e).eraseIdx (x.last e) = A ++ B := by
        rw [h1, ← h2', List.eraseIdx_append_of_length_le (Nat.le_refl _)]
        simp
      rw [e1, e2, e3, e4]
      refine ⟨⟨h.wf.put e, h.n, h.hit, h.miss, ?_, fun h0 => absurd h0 hn, fun i hi => ?_⟩, rfl⟩
      · exact hndx.sublist ((List.eraseIdx_sublist _ _).map _)
      · show ((x.t e).eraseIdx (x.last e)).filter (fun y => setNo (nSets c.n) y.1 == i) = _
        rw [e5, hset i hi]
        split
        · rename_i g
          rw [hsame i g, List.filter_append, hB, List.append_nil]
          unfold putS
          rw [hTs, List.take_append_of_le_length (by omega), List.take_of_length_le (by omega)]
        · rename_i g
          rw [← h.t_other e (by simpa [CM.put] using hi) g, h1, List.filter_append, List.filter_append, List.filter_cons, if_neg]
          intro hy
          have h3' : setNo (nSets c.n) y.1 = c.no e.1 := by
            have := beq_iff_eq.1 h3
            rw [h.n] at this
            exact this
          exact g (by rw [← h3']; exact beq_iff_eq.1 hy)
theorem Tell.all : x.all = c.keys := by
  have key : (List.range (nSets x.n)).map (fun i => (x.L.filter fun e => setNo (nSets x.n) e.1 == i).map (·.1)) = c.sets.map (fun s => s.map (·.1)) := by
    apply List.ext_getElem
    · simp [h.n, h.wf.len]
    · intro i h1 h2
      have hi : i < c.sets.length := by simpa using h2
      simp only [List.getElem_map, List.getElem_range]
      rw [h.n, h.sets i hi]
  unfold RM.all
  rw [key, CM.keys, CM.all, List.map_flatten]
theorem Tell.clear : Tell c.clear x.clear where
  wf := h.wf.clear
  n := h.n
  hit := h.hit
  miss := h.miss
  keys := by simp [RM.clear]
  zero := fun _ => rfl
  sets := fun i hi => by simp [RM.clear, CM.clear]
end
theorem tell_new {n : Nat} (hn : n ≤ 64) : Tell (newM n) { n := n, L := [], hit := 0, miss := 0 } where
  wf := new_wf hn
  n := rfl
  hit := rfl
  miss := rfl
  keys := by simp
  zero := fun _ => rfl
  sets := fun i hi => by simp [newM]
end Go.Proofs.Ytonfmgdikgedfaa.Cm
