/- What stands for a world of classes in memory. -/
import Derived.Test.YtmpkdgankficeaaDoorHp
import Derived.Maps.OwnSet
set_option maxRecDepth 100000
set_option linter.unusedVariables false
set_option linter.unusedSimpArgs false
namespace Go.Proofs.YtmpkdgankficeaaDoor.Hi
open Go.RowKit Bs

/-- The class of that name. -/
def nameIx (m : List EntM) (s : ByteArray) : Option Nat := m.findIdx? fun e => decide (e.c.name = s)
def keyL (s : ByteArray) : Lit := .string s.data.toList
def numD (i : Nat) : DataW Unit := .lit (.int .i64 i)
def Reads (D : DataW Unit) (m : List EntM) : Prop := ∀ s, Maps.has D (keyL s) = (nameIx m s).isSome ∧ ∀ i, nameIx m s = some i → ∀ z, D.atKey (keyL s) z = numD i

theorem keyL_inj {s t : ByteArray} (h : keyL s = keyL t) : s = t := by
  unfold keyL at h
  injection h with h
  exact str_ext h

theorem nameIx_append (m : List EntM) (e : EntM) (s : ByteArray) : nameIx (m ++ [e]) s = (nameIx m s).or (if e.c.name = s then some m.length else none) := by
  unfold nameIx
  rw [List.findIdx?_append]
  by_cases h : e.c.name = s
  · simp [List.findIdx?_cons, h]
  · simp [List.findIdx?_cons, h]

theorem nameIx_lt {m : List EntM} {s : ByteArray} {i : Nat} (h : nameIx m s = some i) : i < m.length := by
  unfold nameIx at h
  rw [List.findIdx?_eq_some_iff_getElem] at h
  exact h.1

theorem Reads.nil : Reads (.map []) [] := fun s => ⟨rfl, fun i h => by simp [nameIx] at h⟩

theorem Reads.put {D : DataW Unit} {m : List EntM} (h : Reads D m) (hm : Maps.IsMap D) (e : EntM) (hn : nameIx m e.c.name = none) : Reads (D.put (keyL e.c.name) (numD m.length)) (m ++ [e]) := by
  intro s
  rw [nameIx_append]
  by_cases hs : e.c.name = s
  · subst hs
    rw [hn, if_pos rfl]
    refine ⟨Maps.has_put_same hm (show WideAt.IsKeyLit (keyL _) from trivial) _, ?_⟩
    intro i hi z
    obtain rfl : m.length = i := by simpa using hi
    exact Maps.atKey_put_same hm (show WideAt.IsKeyLit (keyL _) from trivial) _ _
  · rw [if_neg hs, Option.or_none]
    have hne : keyL s ≠ keyL e.c.name := fun h => hs (keyL_inj h).symm
    exact ⟨(Maps.has_put_other hne _).trans (h s).1, fun i hi z => (Maps.atKey_put_other hne _ _).trans ((h s).2 i hi z)⟩

/-- A class's entry in memory. -/
def EntAt (T : Nat → Prop) (w : World) (v : Value) (e : EntM) : Prop :=
  ∃ be cs cv, v = .pointer (some ⟨be, 0, none⟩) ∧ T be ∧ cs.length = 6 ∧ (∀ j (h : j < cs.length), w.cell? ⟨be, j, none⟩ = some cs[j]) ∧ ClsIs T w cs e.c ∧
    w.cell? ⟨be, 6, none⟩ = some (.int .i64 e.above) ∧ w.cell? ⟨be, 7, none⟩ = some (.int .i64 e.depth) ∧ w.cell? ⟨be, 8, none⟩ = some cv ∧ IntSl T w cv e.closure

theorem EntAt.alike {T : Nat → Prop} {w w' : World} {v : Value} {e : EntM} (h : EntAt T w v e) (ha : Alike T w w') : EntAt T w' v e := by
  obtain ⟨be, cs, cv, h1, h2, h3, h4, h5, h6, h7, h8, h9⟩ := h
  exact ⟨be, cs, cv, h1, h2, h3, fun j hj => (ha.cell h2).trans (h4 j hj), ClsIs.alike h5 ha, (ha.cell h2).trans h6, (ha.cell h2).trans h7, (ha.cell h2).trans h8, IntSl.alike h9 ha⟩
theorem EntAt.mono {S T : Nat → Prop} {w : World} {v : Value} {e : EntM} (h : EntAt S w v e) (hS : ∀ k, S k → T k) : EntAt T w v e := by
  obtain ⟨be, cs, cv, h1, h2, h3, h4, h5, h6, h7, h8, h9⟩ := h
  exact ⟨be, cs, cv, h1, hS _ h2, h3, h4, ClsIs.mono h5 hS, h6, h7, h8, IntSl.mono h9 hS⟩

/-- What holds of all worlds of classes. -/
structure WFm (m : List EntM) : Prop where
  len : m.length ≤ 300
  above : ∀ i (h : i < m.length), -1 ≤ m[i].above ∧ m[i].above < i ∧ (m[i].above < 0 ↔ i = 0)
  depth : ∀ i (h : i < m.length), 0 ≤ m[i].depth ∧ m[i].depth ≤ i ∧ (∀ k (hk : k < m.length), m[i].above = k → m[i].depth = m[k].depth + 1) ∧ (i = 0 → m[i].depth = 0)
  closed : ∀ i (h : i < m.length), m[i].closure.Nodup ∧ ∀ x ∈ m[i].closure, 0 ≤ x ∧ x < i
  names : ∀ i (h : i < m.length), nameIx m m[i].c.name = some i

structure HWF (T : Nat → Prop) (bw : Nat) (va : Value) (bm : Nat) (ps : List Value) (D : DataW Unit) (w : World) (m : List EntM) : Prop where
  all : w.cell? ⟨bw, 0, none⟩ = some va
  byName : w.cell? ⟨bw, 1, none⟩ = some (.map (some bm))
  thaw : ∀ j, w.frozen? ⟨bw, j, none⟩ = false
  row : w.ownsRow 0 75 1 va m.length ps
  map : w.ownsMap Tryd.prog 9 (plainElem Tryd.prog 3) bm m.length D
  reads : Reads D m
  ents : ∀ i (h : i < m.length), ∃ v, ps[i]? = some v ∧ EntAt T w v m[i]
  live : ∀ k, T k → k < w.heap.size
  apart : ¬ T bw ∧ ¬ T bm ∧ (∀ g, va.ownBlock = some g → ¬ T g ∧ g ≠ bw ∧ g ≠ bm) ∧ bw ≠ bm
  wf : WFm m

/-- A world of classes: at bw; all of it lies in S. -/
def HW (S : Nat → Prop) (bw : Nat) (w : World) (m : List EntM) : Prop :=
  ∃ T va bm ps D, HWF T bw va bm ps D w m ∧ S bw ∧ S bm ∧ (∀ g, va.ownBlock = some g → S g) ∧ (∀ k, T k → S k)

theorem row_of_block {w w' : World} {B : Nat} {E : TypeId} {size : Nat} {v : Value} {n : Nat} {xs : List Value} (h : w.ownsRow B E size v n xs) (ha : ∀ k, v.ownBlock = some k → w'.heap[k]? = w.heap[k]?) : w'.ownsRow B E size v n xs := by
  obtain ⟨h1, h2 | ⟨g, cap, cur, rfl, h3, h4, h5⟩⟩ := h
  · exact ⟨h1, .inl h2⟩
  · exact ⟨h1, .inr ⟨g, cap, cur, rfl, h3, (ha g rfl).trans h4, h5⟩⟩
theorem map_of_block {H : Type} {P : Program} {k : TypeId} {R : Value → Option (DataW H × List MemPlace)} {w w' : World} {b n : Nat} {D : DataW H} (h : w.ownsMap P k R b n D) (ha : w'.heap[b]? = w.heap[b]?) : w'.ownsMap P k R b n D := by
  obtain ⟨es, c, h1, h2⟩ := h
  exact ⟨es, c, ha.trans h1, h2⟩

theorem HWF.alike {T : Nat → Prop} {bw : Nat} {va : Value} {bm : Nat} {ps : List Value} {D : DataW Unit} {w w' : World} {m : List EntM} (h : HWF T bw va bm ps D w m)
    (hs : w.heap.size ≤ w'.heap.size) (ha : ∀ k, k = bw ∨ k = bm ∨ va.ownBlock = some k ∨ T k → w'.heap[k]? = w.heap[k]?) : HWF T bw va bm ps D w' m where
  all := (World.cell?_of_block (w := w) (a := ⟨bw, 0, none⟩) (ha bw (.inl rfl))).trans h.all
  byName := (World.cell?_of_block (w := w) (a := ⟨bw, 1, none⟩) (ha bw (.inl rfl))).trans h.byName
  thaw := fun j => (World.frozen?_of_block (w := w) (a := ⟨bw, j, none⟩) (ha bw (.inl rfl))).trans (h.thaw j)
  row := row_of_block h.row fun k hk => ha k (.inr (.inr (.inl hk)))
  map := map_of_block h.map (ha bm (.inr (.inl rfl)))
  reads := h.reads
  ents := fun i hi => by
    obtain ⟨v, h1, h2⟩ := h.ents i hi
    exact ⟨v, h1, EntAt.alike h2 fun k hk => ha k (.inr (.inr (.inr hk)))⟩
  live := fun k hk => Nat.lt_of_lt_of_le (h.live k hk) hs
  apart := h.apart
  wf := h.wf

theorem HW.alike {S : Nat → Prop} {bw : Nat} {w w' : World} {m : List EntM} (h : HW S bw w m) (hs : w.heap.size ≤ w'.heap.size) (ha : Alike S w w') : HW S bw w' m := by
  obtain ⟨T, va, bm, ps, D, h1, h2, h3, h4, h5⟩ := h
  refine ⟨T, va, bm, ps, D, h1.alike hs ?_, h2, h3, h4, h5⟩
  rintro k (rfl | rfl | hk | hk)
  · exact ha _ h2
  · exact ha _ h3
  · exact ha _ (h4 k hk)
  · exact ha _ (h5 k hk)

theorem HW.wf {S : Nat → Prop} {bw : Nat} {w : World} {m : List EntM} (h : HW S bw w m) : WFm m := by
  obtain ⟨T, va, bm, ps, D, h1, _⟩ := h
  exact h1.wf
theorem HW.mono {S S' : Nat → Prop} {bw : Nat} {w : World} {m : List EntM} (h : HW S bw w m) (hS : ∀ k, S k → S' k) : HW S' bw w m := by
  obtain ⟨T, va, bm, ps, D, h1, h2, h3, h4, h5⟩ := h
  exact ⟨T, va, bm, ps, D, h1, hS _ h2, hS _ h3, fun g hg => hS _ (h4 g hg), fun k hk => hS _ (h5 k hk)⟩
end Go.Proofs.YtmpkdgankficeaaDoor.Hi
