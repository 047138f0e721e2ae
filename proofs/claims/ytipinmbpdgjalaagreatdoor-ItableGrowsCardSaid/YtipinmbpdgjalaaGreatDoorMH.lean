/- The closure of put: a number joins the closure, if it isn't there. -/
import Derived.Test.YtipinmbpdgjalaaGreatDoorMM
import Derived.Lib.Hide
import Derived.OwnWalk
import Derived.Outline
import Derived.Deep.DeepMust
import Derived.KernelRfl
import Derived.Test.YtipinmbpdgjalaaGreatDoorShelf
import Derived.Maps.OwnSet
import Derived.StillTailTactics
import Derived.Deep.RegionHeld3
import Derived.Deep.Onto
import Derived.Deep.LoopGhost
import Derived.LoopTactic
import Derived.Maps.AppendAt
set_option maxRecDepth 100000
set_option linter.unusedVariables false
set_option linter.unusedSimpArgs false
namespace Go.Proofs.YtipinmbpdgjalaaGreatDoor.Hi
open Go.RowKit Bs

theorem info_int : (Tryz.prog.info? 3).map (fun i => (i.zero, i.size, i.bytes)) = some (some (.int .i64 0), 1, 8) := by kernel_rfl

/-- A row of the call's own, as contracts want a slice of numbers. -/
theorem own_ints {w : World} {B : Nat} {E : TypeId} {v : Value} {n : Nat} {xs : List Int} (h : w.ownsRow B E 1 v n (xs.map (Value.int .i64))) :
    n = xs.length ∧ ((v = .slice none 0 0 ∧ xs = []) ∨ ∃ g cap, v = .slice (some ⟨g, 0, none⟩) n cap ∧ B ≤ g ∧ g < w.heap.size ∧ n ≤ cap ∧ ∀ i (h : i < xs.length), w.cell? ⟨g, i, none⟩ = some (.int .i64 xs[i])) := by
  obtain ⟨h1, h2⟩ := h
  have hn : n = xs.length := by simpa using h1.symm
  refine ⟨hn, ?_⟩
  rcases h2 with ⟨rfl, h2⟩ | ⟨g, cap, cur, rfl, hg, hh, hc, _, hcur, htake⟩
  · exact .inl ⟨rfl, List.eq_nil_of_length_eq_zero (by omega)⟩
  · refine .inr ⟨g, cap, rfl, hg, ?_, hc, fun i hi => ?_⟩
    · exact (Array.getElem?_eq_some_iff.1 hh).1
    · have e : cur.toList[i]? = some (.int .i64 xs[i]) := by
        have : (cur.toList.take (n * 1))[i]? = some (.int .i64 xs[i]) := by rw [htake]; simp [hi]
        rw [List.getElem?_take] at this
        rwa [if_pos (by omega)] at this
      simp only [World.cell?, hh]
      simpa using e

/-- slices.Contains at a row of the call's own. -/
theorem contains_own {w : World} {B : Nat} {E : TypeId} {v : Value} {n : Nat} {xs : List Int} (x : Int) (h : w.ownsRow B E 1 v n (xs.map (Value.int .i64))) (hn : n ≤ 9223372036854775807) :
    Calls Tryz.prog 48 #[v, .int .i64 x] w fun e w' => e = .returned (.bool (xs.contains x)) ∧ w' = w := by
  obtain ⟨rfl, ⟨rfl, rfl⟩ | ⟨g, cap, rfl, _, _, _, hc⟩⟩ := own_ints h
  · exact Tryz.slices_Contains_int_empty none 0 x w
  · refine (Tryz.slices_Contains_int g 0 xs.length cap xs x w (Nat.le_refl _) hn fun j hj => ?_).mono ?_
    · rw [Nat.zero_add, hc j hj]; simp [List.getD, hj]
    · rintro e w' ⟨rfl, rfl⟩
      exact ⟨by rw [List.take_length], rfl⟩

/-- Behind an append of one: the value is a slice with an address. -/
theorem own_form {w : World} {B : Nat} {E : TypeId} {v : Value} {n size : Nat} {xs : List Value} (h : w.ownsRow B E size v (n + 1) xs) : ∃ g cap, v = .slice (some ⟨g, 0, none⟩) (n + 1) cap := by
  obtain ⟨_, ⟨_, h2⟩ | ⟨g, cap, cur, rfl, _⟩⟩ := h
  · omega
  · exact ⟨g, cap, rfl⟩

/-- What lies below the row's base stays behind an append. -/
theorem grown_old {w w1 : World} {B : Nat} {E : TypeId} {v : Value} {n size : Nat} {xs : List Value} (h : w.ownsRow B E size v n xs) (hg : w.grownBy w1 v.ownBlock) {k : Nat} (hk : k < B) (hk' : k < w.heap.size) : w1.heap[k]? = w.heap[k]? :=
  hg.block k hk' fun e => by
    have := (h.lt k e.symm).1
    omega

/-- A list with a number more, if it isn't there. -/
def addNew (xs : List Int) (x : Int) : List Int := if xs.contains x then xs else xs ++ [x]

/-- What put$1 leaves. -/
def Put1 (b base : Nat) (ys : List Int) (w w' : World) : Prop :=
  ∃ v', w'.cell? ⟨b, 8, none⟩ = some v' ∧ w'.ownsRow base 3 1 v' ys.length (ys.map (Value.int .i64)) ∧
        (∀ j, j ≠ 8 → w'.cell? ⟨b, j, none⟩ = w.cell? ⟨b, j, none⟩) ∧ (∀ k, k < base → k ≠ b → w'.heap[k]? = w.heap[k]?) ∧ w.heap.size ≤ w'.heap.size ∧ w'.os = w.os ∧ w'.tape = w.tape ∧ w'.output = w.output ∧ (∀ j, w'.frozen? ⟨b, j, none⟩ = w.frozen? ⟨b, j, none⟩)

theorem put1_close {b base x : Nat} {t : TypeId} {n : Nat} {w w1 : World} {u v v1 : Value} {ys : List Int} {zs : List Value} (o : Obj)
    (hc : w.cell? ⟨b, 8, none⟩ = some u) (hown : w.ownsRow base 3 1 v n zs) (hbb : b < base) (hb : base ≤ w.heap.size)
    (hown1 : w1.ownsRow base 3 1 v1 ys.length (ys.map (Value.int .i64))) (hg : (w.alloc o).drew.grownBy w1 v.ownBlock) : Put1 b base ys w (w1.setCell ⟨b, 8, none⟩ v1) := by
  have hbs : b < w.heap.size := World.block_lt_of_cell? _ _ hc
  have old : ∀ k, k < base → w1.heap[k]? = w.heap[k]? := fun k hk =>
    (grown_old ((hown.alloc o).drew) hg hk (by simp; omega)).trans (Below.heap_alloc w o k (by omega))
  have h8 : w1.cell? ⟨b, 8, none⟩ = some u := (World.cell?_of_block (w := w) (a := ⟨b, 8, none⟩) (old b hbb)).trans hc
  refine ⟨v1, setCell_same h8, ownsRow_setCell_below hown1 hbb _, fun j hj => ?_, fun k hk hkb => ?_, ?_, hg.os, hg.tape, hg.output, fun j => ?_⟩
  · rw [setCell_off (by omega)]
    exact World.cell?_of_block (w := w) (a := ⟨b, j, none⟩) (old b hbb)
  · rw [Below.heap_setCell _ _ _ _ hkb]
    exact old k hk
  · have := hg.size
    simp at this ⊢
    omega
  · rw [World.frozen?_setCell]
    exact World.frozen?_of_block (w := w) (a := ⟨b, j, none⟩) (old b hbb)

/-- put$1: b: e's cells; q: the variable e. -/
theorem put1 (q b base : Nat) (x : Int) (v : Value) (xs : List Int) (w : World)
    (hq : w.cell? ⟨q, 0, none⟩ = some (.pointer (some ⟨b, 0, none⟩))) (hc : w.cell? ⟨b, 8, none⟩ = some v) (hf : w.frozen? ⟨b, 8, none⟩ = false)
    (hown : w.ownsRow base 3 1 v xs.length (xs.map (Value.int .i64))) (hl : xs.length ≤ 1000) (hb : base ≤ w.heap.size) (hbb : b < base) (hqb : q < base) :
    Calls Tryz.prog 89 #[.int .i64 x, .pointer (some ⟨q, 0, none⟩)] w fun e w' => e = .returned (.tuple #[]) ∧ Put1 b base (addNew xs x) w w' := by
  cases hx : xs.contains x
  · have F : Hid (addNew xs x = xs ++ [x]) := Lib.hid (by unfold addNew; rw [hx]; rfl)
    obtain ⟨i0, hi, hz0, hz1, hz2⟩ := info_parts info_int
    go_enter Tryz.func89, Tryz.ntmps89
    go_wp2_with fail
    refine (contains_own x hown (by omega)).mono ?_
    rintro e w' ⟨rfl, rfl⟩
    rw [hx]
    go_wp2_with fail
    have HX := Lib.hid hx
    clear hx
    have hqs : q < w'.heap.size := World.block_lt_of_cell? _ _ hq
    have hbs : b < w'.heap.size := World.block_lt_of_cell? _ _ hc
    have hnew : ∀ j u, ([.int .i64 x] : List Value)[j]? = some u → ((w'.alloc (Obj.cells #[Value.int IntKind.i64 x] 3)).drew).cell? ((⟨w'.heap.size, 0, none⟩ : Addr).add j) = some u := by
      intro j u hu
      cases j with
      | zero =>
        obtain rfl : Value.int IntKind.i64 x = u := by simpa using hu
        show (w'.alloc _).cell? ⟨w'.heap.size, 0, none⟩ = _
        rw [World.cell?_alloc_new]; rfl
      | succ j => simp at hu
    have HN := Lib.hid hnew
    clear hnew
    have key : ∀ (v1 : Value) (w1 : World), (w'.alloc (Obj.cells #[Value.int IntKind.i64 x] 3)).drew.grownBy w1 v.ownBlock → w1.cell? ⟨b, 8, none⟩ = some v ∧ w1.cell? ⟨q, 0, none⟩ = some (.pointer (some ⟨b, 0, none⟩)) ∧ w1.frozen? ⟨b, 8, none⟩ = false := by
      intro v1 w1 hg
      have h1 := grown_old ((hown.alloc (Obj.cells #[Value.int IntKind.i64 x] 3)).drew) hg hbb (by simp; omega)
      have h2 := grown_old ((hown.alloc (Obj.cells #[Value.int IntKind.i64 x] 3)).drew) hg hqb (by simp; omega)
      have e1 : w1.heap[b]? = w'.heap[b]? := h1.trans (Below.heap_alloc w' _ b hbs)
      have e2 : w1.heap[q]? = w'.heap[q]? := h2.trans (Below.heap_alloc w' _ q hqs)
      exact ⟨(World.cell?_of_block (w := w') (a := ⟨b, 8, none⟩) e1).trans hc, (World.cell?_of_block (w := w') (a := ⟨q, 0, none⟩) e2).trans hq, (World.frozen?_of_block (w := w') (a := ⟨b, 8, none⟩) e1).trans hf⟩
    have HK := Lib.hid key
    clear key
    go_region_law (refine step_append_own rfl (.tmp 14) (.tmp 16) 62 rfl base 3 i0 _ 1 8 Tryz.underlying62 hi hz0 hz1 hz2 rfl (by decide) v xs.length (xs.map (Value.int .i64)) (by simp [Act.eval, Act.put]) ((hown.alloc _).drew) ⟨w'.heap.size, 0, none⟩ 1 1 [.int .i64 x] (by simp [Act.eval, Act.put]) rfl HN.out (by simp [Value.oneCell']) (by unfold maxLen; omega) (by omega) (by simp; omega) ?_; intro v1 w1 hown1 hgrow1; obtain ⟨g, cap, hv⟩ := own_form hown1; obtain ⟨k1, k2, k3⟩ := HK.out v1 w1 hgrow1; rw [hv]; have HV := Lib.hid hv; clear hv)
    all_goals
      have fin := put1_close (x := 0) (t := 0) (ys := xs ++ [x]) _ hc hown hbb hb (by simpa using hown1) hgrow1
      rw [HV.out] at fin
      have FIN := Lib.hid fin
      clear fin
      go_end0
      exact ⟨rfl, by rw [F.out]; exact FIN.out⟩
  · have F : Hid (addNew xs x = xs) := Lib.hid (by unfold addNew; rw [hx]; rfl)
    go_enter Tryz.func89, Tryz.ntmps89
    go_wp2_with fail
    refine (contains_own x hown (by omega)).mono ?_
    rintro e w' ⟨rfl, rfl⟩
    rw [hx]
    go_wp2
    go_end0
    exact ⟨rfl, v, hc, by rw [F.out]; exact hown, fun _ _ => rfl, fun _ _ _ => rfl, Nat.le_refl _, rfl, rfl, rfl, fun _ => rfl⟩
end Go.Proofs.YtipinmbpdgjalaaGreatDoor.Hi
/- What stands for a world of classes in memory. -/
set_option maxRecDepth 100000
set_option linter.unusedVariables false
set_option linter.unusedSimpArgs false
namespace Go.Proofs.YtipinmbpdgjalaaGreatDoor.Hi
open Go.RowKit Bs

/-- The class of that name. -/
def nameIx (m : List EntM) (s : ByteArray) : Option Nat := m.findIdx? fun e => decide (e.c.name = s)
def keyL (s : ByteArray) : Lit := .string s.data.toList
def numD (i : Nat) : DataW Unit := .lit (.int .i64 i)
def Reads (D : DataW Unit) (m : List EntM) : Prop := ∀ s, Maps.has D (keyL s) = (nameIx m s).isSome ∧ ∀ i, nameIx m s = some i → ∀ z, D.atKey (keyL s) z = numD i

theorem keyL_inj {s t : ByteArray} (h : keyL s = keyL t) : s = t := by
  unfold keyL at h
  injection h with h
  exact str_ext h

theorem nameIx_append (m : List EntM) (e : EntM) (s : ByteArray) : nameIx (m ++ [e]) s = (nameIx m s).or (if e.c.name = s then some m.length else none) := by
  unfold nameIx
  rw [List.findIdx?_append]
  by_cases h : e.c.name = s
  · simp [List.findIdx?_cons, h]
  · simp [List.findIdx?_cons, h]

theorem nameIx_lt {m : List EntM} {s : ByteArray} {i : Nat} (h : nameIx m s = some i) : i < m.length := by
  unfold nameIx at h
  rw [List.findIdx?_eq_some_iff_getElem] at h
  exact h.1

theorem Reads.nil : Reads (.map []) [] := fun s => ⟨rfl, fun i h => by simp [nameIx] at h⟩

theorem Reads.put {D : DataW Unit} {m : List EntM} (h : Reads D m) (hm : Maps.IsMap D) (e : EntM) (hn : nameIx m e.c.name = none) : Reads (D.put (keyL e.c.name) (numD m.length)) (m ++ [e]) := by
  intro s
  rw [nameIx_append]
  by_cases hs : e.c.name = s
  · subst hs
    rw [hn, if_pos rfl]
    refine ⟨Maps.has_put_same hm (show WideAt.IsKeyLit (keyL _) from trivial) _, ?_⟩
    intro i hi z
    obtain rfl : m.length = i := by simpa using hi
    exact Maps.atKey_put_same hm (show WideAt.IsKeyLit (keyL _) from trivial) _ _
  · rw [if_neg hs, Option.or_none]
    have hne : keyL s ≠ keyL e.c.name := fun h => hs (keyL_inj h).symm
    exact ⟨(Maps.has_put_other hne _).trans (h s).1, fun i hi z => (Maps.atKey_put_other hne _ _).trans ((h s).2 i hi z)⟩

/-- A class's entry in memory. -/
def EntAt (T : Nat → Prop) (w : World) (v : Value) (e : EntM) : Prop :=
  ∃ be cs cv, v = .pointer (some ⟨be, 0, none⟩) ∧ T be ∧ cs.length = 6 ∧ (∀ j (h : j < cs.length), w.cell? ⟨be, j, none⟩ = some cs[j]) ∧ ClsIs T w cs e.c ∧
    w.cell? ⟨be, 6, none⟩ = some (.int .i64 e.above) ∧ w.cell? ⟨be, 7, none⟩ = some (.int .i64 e.depth) ∧ w.cell? ⟨be, 8, none⟩ = some cv ∧ IntSl T w cv e.closure

theorem EntAt.alike {T : Nat → Prop} {w w' : World} {v : Value} {e : EntM} (h : EntAt T w v e) (ha : Alike T w w') : EntAt T w' v e := by
  obtain ⟨be, cs, cv, h1, h2, h3, h4, h5, h6, h7, h8, h9⟩ := h
  exact ⟨be, cs, cv, h1, h2, h3, fun j hj => (ha.cell h2).trans (h4 j hj), ClsIs.alike h5 ha, (ha.cell h2).trans h6, (ha.cell h2).trans h7, (ha.cell h2).trans h8, IntSl.alike h9 ha⟩
theorem EntAt.mono {S T : Nat → Prop} {w : World} {v : Value} {e : EntM} (h : EntAt S w v e) (hS : ∀ k, S k → T k) : EntAt T w v e := by
  obtain ⟨be, cs, cv, h1, h2, h3, h4, h5, h6, h7, h8, h9⟩ := h
  exact ⟨be, cs, cv, h1, hS _ h2, h3, h4, ClsIs.mono h5 hS, h6, h7, h8, IntSl.mono h9 hS⟩

/-- What holds of all worlds of classes. -/
structure WFm (m : List EntM) : Prop where
  len : m.length ≤ 300
  above : ∀ i (h : i < m.length), -1 ≤ m[i].above ∧ m[i].above < i ∧ (m[i].above < 0 ↔ i = 0)
  depth : ∀ i (h : i < m.length), 0 ≤ m[i].depth ∧ m[i].depth ≤ i ∧ (∀ k (hk : k < m.length), m[i].above = k → m[i].depth = m[k].depth + 1) ∧ (i = 0 → m[i].depth = 0)
  closed : ∀ i (h : i < m.length), m[i].closure.Nodup ∧ ∀ x ∈ m[i].closure, 0 ≤ x ∧ x < i
  names : ∀ i (h : i < m.length), nameIx m m[i].c.name = some i

structure HWF (T : Nat → Prop) (bw : Nat) (va : Value) (bm : Nat) (ps : List Value) (D : DataW Unit) (w : World) (m : List EntM) : Prop where
  all : w.cell? ⟨bw, 0, none⟩ = some va
  byName : w.cell? ⟨bw, 1, none⟩ = some (.map (some bm))
  thaw : ∀ j, w.frozen? ⟨bw, j, none⟩ = false
  row : w.ownsRow 0 88 1 va m.length ps
  map : w.ownsMap Tryz.prog 9 (plainElem Tryz.prog 3) bm m.length D
  reads : Reads D m
  ents : ∀ i (h : i < m.length), ∃ v, ps[i]? = some v ∧ EntAt T w v m[i]
  live : ∀ k, T k → k < w.heap.size
  apart : ¬ T bw ∧ ¬ T bm ∧ (∀ g, va.ownBlock = some g → ¬ T g ∧ g ≠ bw ∧ g ≠ bm) ∧ bw ≠ bm
  wf : WFm m

/-- A world of classes: at bw; all of it lies in S. -/
def HW (S : Nat → Prop) (bw : Nat) (w : World) (m : List EntM) : Prop :=
  ∃ T va bm ps D, HWF T bw va bm ps D w m ∧ S bw ∧ S bm ∧ (∀ g, va.ownBlock = some g → S g) ∧ (∀ k, T k → S k)

theorem row_of_block {w w' : World} {B : Nat} {E : TypeId} {size : Nat} {v : Value} {n : Nat} {xs : List Value} (h : w.ownsRow B E size v n xs) (ha : ∀ k, v.ownBlock = some k → w'.heap[k]? = w.heap[k]?) : w'.ownsRow B E size v n xs := by
  obtain ⟨h1, h2 | ⟨g, cap, cur, rfl, h3, h4, h5⟩⟩ := h
  · exact ⟨h1, .inl h2⟩
  · exact ⟨h1, .inr ⟨g, cap, cur, rfl, h3, (ha g rfl).trans h4, h5⟩⟩
theorem map_of_block {H : Type} {P : Program} {k : TypeId} {R : Value → Option (DataW H × List MemPlace)} {w w' : World} {b n : Nat} {D : DataW H} (h : w.ownsMap P k R b n D) (ha : w'.heap[b]? = w.heap[b]?) : w'.ownsMap P k R b n D := by
  obtain ⟨es, c, h1, h2⟩ := h
  exact ⟨es, c, ha.trans h1, h2⟩

theorem HWF.alike {T : Nat → Prop} {bw : Nat} {va : Value} {bm : Nat} {ps : List Value} {D : DataW Unit} {w w' : World} {m : List EntM} (h : HWF T bw va bm ps D w m)
    (hs : w.heap.size ≤ w'.heap.size) (ha : ∀ k, k = bw ∨ k = bm ∨ va.ownBlock = some k ∨ T k → w'.heap[k]? = w.heap[k]?) : HWF T bw va bm ps D w' m where
  all := (World.cell?_of_block (w := w) (a := ⟨bw, 0, none⟩) (ha bw (.inl rfl))).trans h.all
  byName := (World.cell?_of_block (w := w) (a := ⟨bw, 1, none⟩) (ha bw (.inl rfl))).trans h.byName
  thaw := fun j => (World.frozen?_of_block (w := w) (a := ⟨bw, j, none⟩) (ha bw (.inl rfl))).trans (h.thaw j)
  row := row_of_block h.row fun k hk => ha k (.inr (.inr (.inl hk)))
  map := map_of_block h.map (ha bm (.inr (.inl rfl)))
  reads := h.reads
  ents := fun i hi => by
    obtain ⟨v, h1, h2⟩ := h.ents i hi
    exact ⟨v, h1, EntAt.alike h2 fun k hk => ha k (.inr (.inr (.inr hk)))⟩
  live := fun k hk => Nat.lt_of_lt_of_le (h.live k hk) hs
  apart := h.apart
  wf := h.wf

theorem HW.alike {S : Nat → Prop} {bw : Nat} {w w' : World} {m : List EntM} (h : HW S bw w m) (hs : w.heap.size ≤ w'.heap.size) (ha : Alike S w w') : HW S bw w' m := by
  obtain ⟨T, va, bm, ps, D, h1, h2, h3, h4, h5⟩ := h
  refine ⟨T, va, bm, ps, D, h1.alike hs ?_, h2, h3, h4, h5⟩
  rintro k (rfl | rfl | hk | hk)
  · exact ha _ h2
  · exact ha _ h3
  · exact ha _ (h4 k hk)
  · exact ha _ (h5 k hk)

theorem HW.wf {S : Nat → Prop} {bw : Nat} {w : World} {m : List EntM} (h : HW S bw w m) : WFm m := by
  obtain ⟨T, va, bm, ps, D, h1, _⟩ := h
  exact h1.wf
theorem HW.mono {S S' : Nat → Prop} {bw : Nat} {w : World} {m : List EntM} (h : HW S bw w m) (hS : ∀ k, S k → S' k) : HW S' bw w m := by
  obtain ⟨T, va, bm, ps, D, h1, h2, h3, h4, h5⟩ := h
  exact ⟨T, va, bm, ps, D, h1, hS _ h2, hS _ h3, fun g hg => hS _ (h4 g hg), fun k hk => hS _ (h5 k hk)⟩
end Go.Proofs.YtipinmbpdgjalaaGreatDoor.Hi
/- put lays a class. -/
set_option maxRecDepth 100000
set_option linter.unusedVariables false
set_option linter.unusedSimpArgs false
namespace Go.Proofs.YtipinmbpdgjalaaGreatDoor.Hi
open Go.RowKit Bs

/-- Of the world only what is said of it is kept in sight. -/
theorem wp_gen {P : Program} {c : Code} {Q : Exit → Act → World → Prop} {a : Act} {w : World} (p : World → Prop) (h : p w) (k : ∀ w', p w' → c.wp P Q a w') : c.wp P Q a w := k w h

/-- Behind put's first steps: b: the entry; q: the variable e. -/
structure Laid (w W : World) (nm : ByteArray) (v1 v2 v5 : Value) (fl ld ab dp : Int) (cv : Value) : Prop where
  old : ∀ k, k < w.heap.size → W.heap[k]? = w.heap[k]?
  os : W.os = w.os
  tape : W.tape = w.tape
  output : W.output = w.output
  size : w.heap.size + 3 ≤ W.heap.size
  q : W.cell? ⟨w.heap.size + 1 + 1, 0, none⟩ = some (.pointer (some ⟨w.heap.size + 1, 0, none⟩))
  thaw : ∀ j, W.frozen? ⟨w.heap.size + 1, j, none⟩ = false
  n0 : W.cell? ⟨w.heap.size, 0, none⟩ = some (.string nm)
  c0 : W.cell? ⟨w.heap.size + 1, 0, none⟩ = some (.string nm)
  c1 : W.cell? ⟨w.heap.size + 1, 1, none⟩ = some v1
  c2 : W.cell? ⟨w.heap.size + 1, 2, none⟩ = some v2
  c3 : W.cell? ⟨w.heap.size + 1, 3, none⟩ = some (.int .i64 fl)
  c4 : W.cell? ⟨w.heap.size + 1, 4, none⟩ = some (.int .i64 ld)
  c5 : W.cell? ⟨w.heap.size + 1, 5, none⟩ = some v5
  c6 : W.cell? ⟨w.heap.size + 1, 6, none⟩ = some (.int .i64 ab)
  c7 : W.cell? ⟨w.heap.size + 1, 7, none⟩ = some (.int .i64 dp)
  c8 : W.cell? ⟨w.heap.size + 1, 8, none⟩ = some cv

theorem Laid.start (w : World) (nm : ByteArray) (v1 v2 v5 : Value) (fl ld ab : Int) (t0 t t' : TypeId) :
    Laid w (((w.alloc (.cells #[.string nm, v1, v2, .int .i64 fl, .int .i64 ld, v5] t0)).alloc (.cells #[.string nm, v1, v2, .int .i64 fl, .int .i64 ld, v5, .int .i64 ab, .int .i64 0, .slice none 0 0] t)).alloc (.cells #[.pointer (some ⟨w.heap.size + 1, 0, none⟩)] t')) nm v1 v2 v5 fl ld ab 0 (.slice none 0 0) := by
  have hs : ((w.alloc (.cells #[.string nm, v1, v2, .int .i64 fl, .int .i64 ld, v5] t0)).alloc (.cells #[.string nm, v1, v2, .int .i64 fl, .int .i64 ld, v5, .int .i64 ab, .int .i64 0, .slice none 0 0] t)).heap.size = w.heap.size + 1 + 1 := by simp
  have hb : ∀ j, (((w.alloc (.cells #[.string nm, v1, v2, .int .i64 fl, .int .i64 ld, v5] t0)).alloc (.cells #[.string nm, v1, v2, .int .i64 fl, .int .i64 ld, v5, .int .i64 ab, .int .i64 0, .slice none 0 0] t)).alloc (.cells #[.pointer (some ⟨w.heap.size + 1, 0, none⟩)] t')).cell? ⟨w.heap.size + 1, j, none⟩
      = (#[.string nm, v1, v2, .int .i64 fl, .int .i64 ld, v5, .int .i64 ab, .int .i64 0, .slice none 0 0] : Array Value)[j]? := fun j => by
    rw [World.cell?_alloc_lt _ _ _ (by simp)]
    have : (w.alloc (.cells #[.string nm, v1, v2, .int .i64 fl, .int .i64 ld, v5] t0)).heap.size = w.heap.size + 1 := by simp
    rw [← this, World.cell?_alloc_new]
  refine ⟨fun k hk => ?_, rfl, rfl, rfl, by simp, ?_, fun j => ?_, ?_, ?_, ?_, ?_, ?_, ?_, ?_, ?_, ?_, ?_⟩
  · rw [Below.heap_alloc _ _ _ (by simp; omega), Below.heap_alloc _ _ _ (by simp; omega), Below.heap_alloc _ _ _ hk]
  · rw [← hs, World.cell?_alloc_new]; rfl
  · rw [World.frozen?_of_block (w := (w.alloc (.cells #[.string nm, v1, v2, .int .i64 fl, .int .i64 ld, v5] t0)).alloc (.cells #[.string nm, v1, v2, .int .i64 fl, .int .i64 ld, v5, .int .i64 ab, .int .i64 0, .slice none 0 0] t)) (Below.heap_alloc _ _ _ (by simp))]
    have : (w.alloc (.cells #[.string nm, v1, v2, .int .i64 fl, .int .i64 ld, v5] t0)).heap.size = w.heap.size + 1 := by simp
    rw [← this, World.frozen?_alloc_new]
  · rw [World.cell?_alloc_lt _ _ _ (by simp; omega), World.cell?_alloc_lt _ _ _ (by simp), World.cell?_alloc_new]; rfl
  all_goals (rw [hb]; rfl)

theorem Laid.cell {w W : World} {nm : ByteArray} {v1 v2 v5 : Value} {fl ld ab dp : Int} {cv : Value} (h : Laid w W nm v1 v2 v5 fl ld ab dp cv) {a : Addr} {v : Value} (hv : w.cell? a = some v) : W.cell? a = some v :=
  (World.cell?_of_block (w := w) (a := a) (h.old a.block (World.block_lt_of_cell? w a hv))).trans hv

theorem Laid.drew {w W : World} {nm : ByteArray} {v1 v2 v5 : Value} {fl ld ab dp : Int} {cv : Value} (h : Laid w W nm v1 v2 v5 fl ld ab dp cv) : Laid w W.drew nm v1 v2 v5 fl ld ab dp cv :=
  ⟨h.old, h.os, h.tape, h.output, h.size, h.q, h.thaw, h.n0, h.c0, h.c1, h.c2, h.c3, h.c4, h.c5, h.c6, h.c7, h.c8⟩
theorem Laid.set7 {w W : World} {nm : ByteArray} {v1 v2 v5 : Value} {fl ld ab dp : Int} {cv : Value} (h : Laid w W nm v1 v2 v5 fl ld ab dp cv) (d : Int) :
    Laid w (W.setCell ⟨w.heap.size + 1, 7, none⟩ (.int .i64 d)) nm v1 v2 v5 fl ld ab d cv := by
  refine ⟨fun k hk => (Below.heap_setCell _ _ _ _ (by simp; omega)).trans (h.old k hk), h.os, h.tape, h.output, by simpa using h.size, ?_, fun j => ?_, ?_, ?_, ?_, ?_, ?_, ?_, ?_, ?_, setCell_same h.c7, ?_⟩
  · rw [setCell_off (by omega)]; exact h.q
  · rw [World.frozen?_setCell]; exact h.thaw j
  all_goals rw [setCell_off (by omega)]
  · exact h.n0
  · exact h.c0
  · exact h.c1
  · exact h.c2
  · exact h.c3
  · exact h.c4
  · exact h.c5
  · exact h.c6
  · exact h.c8
/-- The closure is set, in a world in which only new memory has come. -/
theorem Laid.set8 {w W W' : World} {nm : ByteArray} {v1 v2 v5 : Value} {fl ld ab dp : Int} {cv : Value} (h : Laid w W nm v1 v2 v5 fl ld ab dp cv) (hb : Below W.heap.size W W') (v : Value) :
    Laid w (W'.setCell ⟨w.heap.size + 1, 8, none⟩ v) nm v1 v2 v5 fl ld ab dp v := by
  have hz := h.size
  have hc : ∀ {a : Addr} {v : Value}, W.cell? a = some v → W'.cell? a = some v := fun hv => below_cell' hb hv
  refine ⟨fun k hk => ((Below.heap_setCell _ _ _ _ (by simp; omega)).trans (hb.block k (by omega))).trans (h.old k hk), hb.os.trans h.os, hb.tape.trans h.tape, hb.output.trans h.output, by have := hb.size; simp; omega, ?_, fun j => ?_, ?_, ?_, ?_, ?_, ?_, ?_, ?_, ?_, ?_, setCell_same (hc h.c8)⟩
  · rw [setCell_off (by omega)]; exact hc h.q
  · rw [World.frozen?_setCell, World.frozen?_of_block (w := W) (hb.block _ (by simp; omega))]; exact h.thaw j
  all_goals rw [setCell_off (by omega)]
  · exact hc h.n0
  · exact hc h.c0
  · exact hc h.c1
  · exact hc h.c2
  · exact hc h.c3
  · exact hc h.c4
  · exact hc h.c5
  · exact hc h.c6
  · exact hc h.c7

theorem own_slice {w : World} {B : Nat} {E : TypeId} {v : Value} {n size : Nat} {xs : List Value} (h : w.ownsRow B E size v n xs) : ∃ a c, v = .slice a n c := by
  obtain ⟨_, ⟨rfl, rfl⟩ | ⟨g, cap, cur, rfl, _⟩⟩ := h
  · exact ⟨none, 0, rfl⟩
  · exact ⟨_, cap, rfl⟩

theorem clone_ints {S : Nat → Prop} {w : World} {v : Value} {xs : List Int} (h : IntSl S w v xs) :
    Calls Tryz.prog 88 #[v] w fun e w' => ∃ a c, e = .returned (.slice a xs.length c) ∧ w'.ownsRow w.heap.size 3 1 (.slice a xs.length c) xs.length (xs.map (Value.int .i64)) ∧ Below w.heap.size w w' := by
  obtain ⟨a, c, rfl, h2, h3, h4⟩ := h.cells
  rcases h4 with rfl | ⟨b, o, rfl, _, h4⟩
  · cases a with
    | none => exact (Tryz.slices_Clone_int_nil _ c w).mono (by rintro e w' ⟨rfl, rfl⟩; exact ⟨none, 0, rfl, World.ownsRow_nil _ _ _ _, Below.refl _ _⟩)
    | some a => exact (Tryz.slices_Clone_int_zero a c w).mono (by rintro e w' ⟨v', rfl, h, _, hb⟩; obtain ⟨a, c, rfl⟩ := own_slice h; exact ⟨a, c, rfl, h, hb⟩)
  · refine (Tryz.slices_Clone_int b o xs.length c xs w (Nat.le_refl _) h3 fun j hj => ?_).mono ?_
    · rw [(h4 j hj).1]; simp [List.getD, hj]
    · rintro e w' ⟨v', rfl, h, _, hb⟩
      obtain ⟨a, c, rfl⟩ := own_slice h
      exact ⟨a, c, rfl, by rwa [List.take_length] at h, hb⟩

/-- Behind put's first steps, the closure so far being ys. -/
def PS (w : World) (nm : ByteArray) (v1 v2 v5 : Value) (fl ld ab dp : Int) (ys : List Int) (W : World) : Prop :=
  ∃ a c, Laid w W nm v1 v2 v5 fl ld ab dp (.slice a ys.length c) ∧ W.ownsRow (w.heap.size + 3) 3 1 (.slice a ys.length c) ys.length (ys.map (Value.int .i64))

theorem PS.put1 {w W W' : World} {nm : ByteArray} {v1 v2 v5 : Value} {fl ld ab dp : Int} {ys zs : List Int} (h : PS w nm v1 v2 v5 fl ld ab dp ys W) (hp : Put1 (w.heap.size + 1) (w.heap.size + 3) zs W W') :
    PS w nm v1 v2 v5 fl ld ab dp zs W' := by
  obtain ⟨a, c, h, _⟩ := h
  obtain ⟨v', p1, p2, p3, p4, p5, p6, p7, p8, p9⟩ := hp
  obtain ⟨a', c', rfl⟩ := own_slice p2
  have hz := h.size
  refine ⟨a', c', ⟨fun k hk => (p4 k (by omega) (by omega)).trans (h.old k hk), p6.trans h.os, p7.trans h.tape, p8.trans h.output, by omega, ?_, fun j => (p9 j).trans (h.thaw j), ?_, ?_, ?_, ?_, ?_, ?_, ?_, ?_, ?_, p1⟩, p2⟩
  · exact (World.cell?_of_block (w := W) (a := ⟨w.heap.size + 1 + 1, 0, none⟩) (p4 _ (by simp) (by simp))).trans h.q
  · exact (World.cell?_of_block (w := W) (a := ⟨w.heap.size, 0, none⟩) (p4 _ (by simp) (by simp))).trans h.n0
  all_goals rw [p3 _ (by omega)]
  · exact h.c0
  · exact h.c1
  · exact h.c2
  · exact h.c3
  · exact h.c4
  · exact h.c5
  · exact h.c6
  · exact h.c7

/-- Numbers below n, none twice. -/
def Okl (n : Nat) (ys : List Int) : Prop := ys.Nodup ∧ ∀ x ∈ ys, 0 ≤ x ∧ x < n
theorem Okl.len : ∀ {n : Nat} {ys : List Int}, Okl n ys → ys.length ≤ n := by
  intro n
  induction n with
  | zero =>
    intro ys h
    cases ys with
    | nil => simp
    | cons y r => have := h.2 y (by simp); omega
  | succ n ih =>
    intro ys h
    have h' : Okl n (ys.erase (n : Int)) := by
      refine ⟨h.1.erase _, fun x hx => ?_⟩
      rw [h.1.mem_erase_iff] at hx
      have := h.2 x hx.2
      have := hx.1
      omega
    have := ih h'
    rw [List.length_erase] at this
    split at this <;> omega
theorem Okl.nil (n : Nat) : Okl n [] := ⟨List.nodup_nil, by simp⟩
theorem Okl.addNew {n : Nat} {ys : List Int} (h : Okl n ys) {x : Int} (hx : 0 ≤ x ∧ x < n) : Okl n (addNew ys x) := by
  unfold Hi.addNew
  cases hc : ys.contains x
  · simp only [Bool.false_eq_true, if_false]
    refine ⟨?_, fun y hy => ?_⟩
    · rw [List.nodup_append]
      refine ⟨h.1, by simp, fun a ha b hb e => ?_⟩
      obtain rfl : b = x := by simpa using hb
      subst e
      have : ys.contains a = true := by simpa using ha
      rw [hc] at this; cases this
    · rcases List.mem_append.1 hy with hy | hy
      · exact h.2 y hy
      · obtain rfl : y = x := by simpa using hy
        exact hx
  · simpa using h
theorem Okl.addAll {n : Nat} : ∀ {xs ys : List Int}, Okl n ys → (∀ x ∈ xs, 0 ≤ x ∧ x < n) → Okl n (xs.foldl Hi.addNew ys)
  | [], ys, h, _ => h
  | x :: r, ys, h, hx => show Okl n (r.foldl Hi.addNew (Hi.addNew ys x)) from Okl.addAll (h.addNew (hx x (by simp))) fun y hy => hx y (by simp [hy])
def closAt (m : List EntM) (i : Int) : List Int := ((m[i.toNat]?).map EntM.closure).getD []
def stepC (m : List EntM) (cl : List Int) (i : Int) : List Int := addNew ((closAt m i).foldl addNew cl) i
theorem Okl.stepC {m : List EntM} {n : Nat} {ys : List Int} (h : Okl n ys) {x : Int} (hx : 0 ≤ x ∧ x < n) (hm : ∀ y ∈ closAt m x, 0 ≤ y ∧ y < n) : Okl n (stepC m ys x) := (Okl.addAll h hm).addNew hx
theorem Okl.steps {m : List EntM} {n : Nat} (hm : ∀ x y, y ∈ closAt m x → 0 ≤ y ∧ y < n) : ∀ {xs ys : List Int}, Okl n ys → (∀ x ∈ xs, 0 ≤ x ∧ x < n) → Okl n (xs.foldl (Hi.stepC m) ys)
  | [], ys, h, _ => h
  | x :: r, ys, h, hx => show Okl n (r.foldl (Hi.stepC m) (Hi.stepC m ys x)) from Okl.steps hm (h.stepC (hx x (by simp)) (hm x)) fun y hy => hx y (by simp [hy])

/-- The classes' entries, as put reads them. -/
structure Looks (S : Nat → Prop) (w : World) (bw g cap n : Nat) (m : List EntM) : Prop where
  len : m.length = n
  n300 : n ≤ 300
  all : w.cell? ⟨bw, 0, none⟩ = some (.slice (some ⟨g, 0, none⟩) n cap)
  ents : ∀ i (h : i < m.length), ∃ be a c, w.cell? ⟨g, i, none⟩ = some (.pointer (some ⟨be, 0, none⟩)) ∧ w.cell? ⟨be, 7, none⟩ = some (.int .i64 m[i].depth) ∧
    w.cell? ⟨be, 8, none⟩ = some (.slice a m[i].closure.length c) ∧ IntSl S w (.slice a m[i].closure.length c) m[i].closure ∧ be < w.heap.size
  live : ∀ k, S k → k < w.heap.size
  depth : ∀ i (h : i < m.length), 0 ≤ m[i].depth ∧ m[i].depth ≤ 300
  clos : ∀ x y, y ∈ closAt m x → 0 ≤ y ∧ y < n
  okc : ∀ i (h : i < m.length), Okl n m[i].closure

theorem IntSl.form {S : Nat → Prop} {w : World} {v : Value} {xs : List Int} (h : IntSl S w v xs) : ∃ a c, v = .slice a xs.length c := by
  obtain ⟨a, c, h, _⟩ := h
  exact ⟨a, c, h⟩

theorem HWF.looks {T : Nat → Prop} {bw : Nat} {va : Value} {bm : Nat} {ps : List Value} {D : DataW Unit} {w : World} {m : List EntM} (h : HWF T bw va bm ps D w m) (hm : 0 < m.length) :
    ∃ g cap, va = .slice (some ⟨g, 0, none⟩) m.length cap ∧ Looks T w bw g cap m.length m := by
  obtain ⟨h1, ⟨_, h2⟩ | ⟨g, cap, cur, rfl, h3, h4, h5, h6, h7, h8⟩⟩ := h.row
  · exact absurd h2 (by omega)
  · refine ⟨g, cap, rfl, rfl, h.wf.len, h.all, fun i hi => ?_, h.live, fun i hi => ?_, fun x y hy => ?_, fun i hi => ?_⟩
    · obtain ⟨v, hv, be, cs, cv, rfl, e2, e3, e4, e5, e6, e7, e8, e9⟩ := h.ents i hi
      obtain ⟨a, c, rfl⟩ := e9.form
      refine ⟨be, a, c, ?_, e7, e8, e9, h.live be e2⟩
      have e : cur.toList[i]? = some (.pointer (some ⟨be, 0, none⟩)) := by
        have : (cur.toList.take (m.length * 1))[i]? = some (.pointer (some ⟨be, 0, none⟩)) := by rw [h8]; exact hv
        rw [List.getElem?_take] at this
        rwa [if_pos (by omega)] at this
      simp only [World.cell?, h4]
      simpa using e
    · have := h.wf.depth i hi
      have := h.wf.len
      omega
    · unfold closAt at hy
      cases hx : m[x.toNat]? with
      | none => rw [hx] at hy; simp at hy
      | some e =>
        rw [hx] at hy
        obtain ⟨hl, rfl⟩ := List.getElem?_eq_some_iff.1 hx
        have := (h.wf.closed _ hl).2 y (by simpa using hy)
        omega
    · refine ⟨(h.wf.closed i hi).1, fun x hx => ?_⟩
      have := (h.wf.closed i hi).2 x hx
      omega
end Go.Proofs.YtipinmbpdgjalaaGreatDoor.Hi
/- The walk of put. -/
set_option maxRecDepth 100000
set_option maxHeartbeats 8000000
set_option linter.unusedVariables false
set_option linter.unusedSimpArgs false
namespace Go.Proofs.YtipinmbpdgjalaaGreatDoor.Hi
open Go.RowKit Bs

theorem foldl_take_succ {α β : Type} (f : β → α → β) (l : List α) (j : Nat) (h : j < l.length) (b : β) : f ((l.take j).foldl f b) l[j] = (l.take (j + 1)).foldl f b := by
  rw [List.take_add_one, List.getElem?_eq_getElem h, Option.toList_some, List.foldl_append]; rfl

/-- The same step; and where the new row lies. -/
theorem step_append_at {P : Program} {ops : Array Oper} {o : Oper} {a : Act} {w : World} {K : Act → World → Prop} {Q : Exit → Act → World → Prop} {E : Prop}
    (hg : o.guard = none) (s x : Operand) (t : TypeId) (hop : o.op = Op.call { callee := Callee.builtin Builtin.append, args := #[s, x], argTypes := #[t, t] })
    (base : Nat) (e : TypeId) (i : TypeInfo) (z : Value) (size bytes : Nat) (h1 : P.underlying t = some (.slice e)) (h2 : P.info? e = some i) (h3 : i.zero = some z) (h4 : i.size = size) (h5 : i.bytes = bytes) (h6 : z.cells.size = size) (h7 : 0 < size)
    (v : Value) (n : Nat) (xs : List Value) (hs : a.eval s = v) (hown : w.ownsRow base e size v n xs)
    (ad : Addr) (m c : Nat) (news : List Value) (hx : a.eval x = .slice (some ad) m c) (hn : news.length = m * size) (hc : ∀ j u, news[j]? = some u → w.cell? (ad.add j) = some u) (h1c : ∀ u ∈ news, u.oneCell' = true)
    (b1 : n + m ≤ maxLen) (b2 : (n + m) * bytes ≤ 140737488355328) (hb : base ≤ w.heap.size)
    (hK : ∀ v' w', w'.ownsRow base e size v' (n + m) (xs ++ news) → w.grownBy w' v.ownBlock → (v'.ownBlock = v.ownBlock ∨ v'.ownBlock = some w.heap.size) → K (a.put o.dst v') w') :
    if Region.wanted o (yielded ops a.tmps) = true then Oper.wp P o a w K Q else E := by
  have hw : Region.wanted o (yielded ops a.tmps) = true := by simp [Region.wanted, hg]
  rw [if_pos hw]
  obtain ⟨v', w', hrun, r1, r2, _, r3⟩ := run_append_own_at (P := P) w base t o.type e i z size bytes h1 h2 h3 h4 h5 h6 h7 v n xs hown ad m c news hn hc h1c b1 b2 hb
  unfold Oper.wp
  simp [execOp, hop, resolve, invoke, builtin, hs, hx, hrun, Result.andThen]
  exact hK v' w' r1 r2 r3

/-- What put leaves, cell by cell. W: the world behind the loops. -/
structure PutRaw (w w' : World) (bw bm n : Nat) (va : Value) (ps : List Value) (D : DataW Unit) (nm : ByteArray) (v1 v2 v5 : Value) (fl ld ab dp : Int) (cl : List Int) : Prop where
  mid : ∃ W, PS w nm v1 v2 v5 fl ld ab dp cl W ∧ (∀ k, k < W.heap.size → va.ownBlock ≠ some k → k ≠ bw → k ≠ bm → w'.heap[k]? = W.heap[k]?) ∧ W.heap.size ≤ w'.heap.size ∧ w'.os = W.os ∧ w'.tape = W.tape ∧ w'.output = W.output ∧
    ∃ v', w'.cell? ⟨bw, 0, none⟩ = some v' ∧ w'.ownsRow 0 88 1 v' (n + 1) (ps ++ [.pointer (some ⟨w.heap.size + 1, 0, none⟩)]) ∧ (∀ k, v'.ownBlock = some k → va.ownBlock = some k ∨ W.heap.size ≤ k)
  byName : w'.cell? ⟨bw, 1, none⟩ = some (.map (some bm))
  thaw : ∀ j, w'.frozen? ⟨bw, j, none⟩ = false
  map : w'.ownsMap Tryz.prog 9 (plainElem Tryz.prog 3) bm (n + 1) (D.put (keyL nm) (numD n))

theorem num_wf {n : Nat} (h : n ≤ 9223372036854775807) : (Lit.int .i64 n).wf = true := by
  show (decide (-9223372036854775808 ≤ (n : Int)) && decide ((n : Int) ≤ 9223372036854775807)) = true
  simp
  omega

theorem info_ptr : (Tryz.prog.info? 88).map (fun i => (i.zero, i.size, i.bytes)) = some (some (.pointer none), 1, 8) := by kernel_rfl

theorem put_walk (S SI : Nat → Prop) (bw g cap ab n bm : Nat) (ps : List Value) (D : DataW Unit) (m : List EntM) (v1 v2 v5 : Value) (nm : ByteArray) (fl ld : Int) (ia : Option Addr) (ic : Nat) (is : List Int) (w : World)
    (hk : Looks S w bw g cap n m) (hab : ab < m.length) (hi : IntSl SI w (.slice ia is.length ic) is) (hSI : ∀ k, SI k → k < w.heap.size) (his : ∀ x ∈ is, 0 ≤ x ∧ x < n)
    (hrow : w.ownsRow 0 88 1 (Value.slice (some ⟨g, 0, none⟩) n cap) n ps) (hmap : w.ownsMap Tryz.prog 9 (plainElem Tryz.prog 3) bm n D) (hbm : w.cell? ⟨bw, 1, none⟩ = some (.map (some bm))) (hth : ∀ j, w.frozen? ⟨bw, j, none⟩ = false)
    (hap : ∀ k, ((Value.slice (some ⟨g, 0, none⟩) n cap)).ownBlock = some k → k ≠ bw ∧ k ≠ bm ∧ k < w.heap.size) (hbb : bw ≠ bm) (hnm : nm.size ≤ maxLen) :
    Calls Tryz.prog 51 #[.pointer (some ⟨bw, 0, none⟩), .agg #[.string nm, v1, v2, .int .i64 fl, .int .i64 ld, v5], .int .i64 ab, .slice ia is.length ic] w fun e w' => e = .returned (.int .i64 n) ∧ PutRaw w w' bw bm n (Value.slice (some ⟨g, 0, none⟩) n cap) ps D nm v1 v2 v5 fl ld ab (m[ab].depth + 1) (is.foldl (stepC m) m[ab].closure) := by
  obtain ⟨be, ca, cc, h2, h3, h8, hcl, b3⟩ := hk.ents ab hab
  have h1 := hk.all
  have hn := hk.len
  have hn3 := hk.n300
  have hd := hk.depth ab hab
  generalize m[ab].depth = d at h3 hd ⊢
  have HOK := Lib.hid (hk.okc ab hab)
  generalize m[ab].closure = cl at h8 hcl HOK ⊢
  have hwr : IntKind.i64.wrap (d + 1) = d + 1 := by simp [IntKind.wrap, IntKind.bits, IntKind.signed]; omega
  have hab' : ab < n := by omega
  have HN := Lib.hid hn
  clear hn hab
  have HROW := Lib.hid hrow
  have HMAP := Lib.hid hmap
  have HTH := Lib.hid hth
  have HAP := Lib.hid hap
  have HBM := Lib.hid hbm
  clear hrow hmap hth hap hbm
  go_enter Tryz.func51, Tryz.ntmps51
  go_wp2_with fail
  refine wp_gen (fun W => Laid w W nm v1 v2 v5 fl ld ab 0 (.slice none 0 0)) (Laid.start _ _ _ _ _ _ _ _ _ _ _) ?_
  intro W hL
  have g1 := hL.cell h1
  have g2 := hL.cell h2
  have g3 := hL.cell h3
  have g4 := hL.q
  have g5 := hL.c7
  have g6 := hL.thaw 7
  go_still_tail 14, (by kernel_rfl)
  change wpList _ _ _ _ _ W.drew
  go_wp2_with fail
  refine wp_gen (fun W => Laid w W nm v1 v2 v5 fl ld ab (d + 1) (.slice none 0 0)) (hL.drew.set7 _) ?_
  clear g1 g2 g3 g4 g5 g6 hL W
  intro W hL
  have g1 := hL.cell h1
  have g2 := hL.cell h2
  have g3 := hL.cell h8
  have g4 := hL.q
  have g5 := hL.c8
  have g6 := hL.thaw 8
  have gz := hL.size
  have b1 : bw < w.heap.size := World.block_lt_of_cell? _ _ h1
  have b2 : g < w.heap.size := World.block_lt_of_cell? _ _ h2
  have gcl : IntSl S W.drew (.slice ca cl.length cc) cl := hcl.alike fun k hk' => hL.old k (hk.live k hk')
  have g7 := hL.drew
  go_region_held3 (fun w' => w'.cell? ⟨w.heap.size + 1 + 1, 0, none⟩ = some (.pointer (some ⟨w.heap.size + 1, 0, none⟩)) ∧ w'.cell? ⟨bw, 0, none⟩ = some (.slice (some ⟨g, 0, none⟩) n cap) ∧ w'.cell? ⟨g, ab, none⟩ = some (.pointer (some ⟨be, 0, none⟩)) ∧ w'.cell? ⟨be, 8, none⟩ = some (.slice ca cl.length cc))
    (first | exact ⟨g4, g1, g2, g3⟩ | exact ⟨k4, k1, k2, k3⟩ | exact ⟨(setCell_off (by omega)).trans k4, (setCell_off (by omega)).trans k1, (setCell_off (by omega)).trans k2, (setCell_off (by omega)).trans k3⟩)
    (first | (go_at_call 88; refine (clone_ints gcl).mono ?_; rintro e w' ⟨a', c', rfl, hown, hB⟩; (have k1 : w'.cell? ⟨bw, 0, none⟩ = _ := below_cell' hB g1); (have k2 : w'.cell? ⟨g, ab, none⟩ = _ := below_cell' hB g2); (have k3 : w'.cell? ⟨be, 8, none⟩ = _ := below_cell' hB g3); (have k4 : w'.cell? ⟨w.heap.size + 1 + 1, 0, none⟩ = _ := below_cell' hB g4); (have k5 : w'.cell? ⟨w.heap.size + 1, 8, none⟩ = _ := below_cell' hB g5); (have k6 : w'.frozen? ⟨w.heap.size + 1, 8, none⟩ = false := by rw [World.frozen?_of_block (w := W) (hB.block _ (by simp; omega))]; exact g6)))
  rename_i hHeld
  clear hHeld
  generalize hW' : (w'.setCell ⟨w.heap.size + 1, 8, none⟩ (.slice a' cl.length c')) = W'
  have hPS : PS w nm v1 v2 v5 fl ld ab (d + 1) cl W' := by
    subst hW'
    refine ⟨a', c', g7.set8 hB _, ownsRow_setCell_below (hown.mono gz) (by simp) _⟩
  clear hW' k1 k2 k3 k4 k5 k6 g1 g2 g3 g4 g5 g6 g7 hL gcl hown hB gz
  have HPS := Lib.hid hPS
  clear hPS
  go_wp2_with fail
  obtain ⟨xa, xc, hform, hle, h64, hcells⟩ := hi.cells
  obtain ⟨rfl, -, rfl⟩ : ia = xa ∧ True ∧ ic = xc := by injection hform with e1 e2 e3; exact ⟨e1, trivial, e3⟩
  have HC := Lib.hid hcells
  have HIS := Lib.hid his
  clear hcells his hform hle hi
  go_loopg [53] is.length (fun gk u wr => ∃ k : Nat, Hid (k + gk = is.length) ∧ u = .int .i64 k ∧ Hid (PS w nm v1 v2 v5 fl ld ab (d + 1) ((is.take k).foldl (stepC m) cl) wr))
  case atStart => exact ⟨0, Lib.hid (Nat.zero_add _), rfl, HPS⟩
  case round =>
    obtain ⟨k, hk', rfl, hP⟩ := hrel
    by_cases hlt : k < is.length
    · have hlt' : (k : Int) < (is.length : Int) := by omega
      rcases HC.out with rfl | ⟨ib, io, rfl, hib, hcell⟩
      · simp at hlt
      obtain ⟨hx, hfx⟩ := hcell k hlt
      obtain ⟨hx0, hxn⟩ := HIS.out is[k] (List.getElem_mem hlt)
      obtain ⟨i, hi⟩ : ∃ i : Nat, is[k] = i := ⟨is[k].toNat, by omega⟩
      have HI := Lib.hid hi
      rw [hi] at hx hx0 hxn
      have hin : i < n := by omega
      have him : i < m.length := by have := HN.out; omega
      obtain ⟨bi, ai, ci, e1, e7, e8, ecl, eb⟩ := hk.ents i him
      have HZ := Lib.hid (hk.okc i him)
      have hz3 := (hk.okc i him).len
      have HY : Hid (closAt m i = m[i].closure) := Lib.hid (by unfold closAt; simp [him])
      generalize m[i].closure = zs at e8 ecl HY HZ hz3
      obtain ⟨pa, pc, hL, hown⟩ := hP.out
      have r1 := hL.cell h1
      have r2 := hL.cell e1
      have r3 := hL.cell e8
      have r4 := hL.cell hx
      clear hi hx hx0 hxn e7 e8 him e1 hcell hfx
      obtain ⟨ys, hys⟩ : ∃ ys, (is.take k).foldl (stepC m) cl = ys := ⟨_, rfl⟩
      have HOKy : Hid (Okl n ys) := Lib.hid (hys ▸ Okl.steps hk.clos HOK.out fun x hx => HIS.out x (List.mem_of_mem_take hx))
      rw [hys] at hP
      have HYS := Lib.hid hys
      clear hys hL hown
      go_wp2_with fail
      go_loopg [68] zs.length (fun gk u wr2 => ∃ j : Nat, Hid (j + gk = zs.length) ∧ u = .int .i64 j ∧ Hid (PS w nm v1 v2 v5 fl ld ab (d + 1) ((zs.take j).foldl addNew ys) wr2))
      case atStart => exact ⟨0, Lib.hid (Nat.zero_add _), rfl, hP⟩
      case round =>
        clear r1 r2 r3 r4 hP
        obtain ⟨j, hj', rfl, hR⟩ := hrel
        by_cases hlt2 : j < zs.length
        · have hlt2' : (j : Int) < (zs.length : Int) := by omega
          obtain ⟨za, zc, zform, -, -, zcells⟩ := ecl.cells
          obtain ⟨rfl, rfl⟩ : ai = za ∧ ci = zc := by injection zform with e1 e2 e3; exact ⟨e1, e3⟩
          clear zform
          rcases zcells with rfl | ⟨zb, zo, rfl, hzb, zcell⟩
          · simp at hlt2
          obtain ⟨hx, hfx⟩ := zcell j hlt2
          have HB := Lib.hid ((HZ.out).2 zs[j] (List.getElem_mem hlt2))
          have HT : Hid (addNew ((zs.take j).foldl addNew ys) zs[j] = (zs.take (j + 1)).foldl addNew ys) := Lib.hid (foldl_take_succ addNew zs j hlt2 ys)
          generalize zs[j] = x at hx HB HT
          have HOKz : Hid (Okl n ((zs.take j).foldl addNew ys)) := Lib.hid (Okl.addAll HOKy.out fun x hx => (HZ.out).2 x (List.mem_of_mem_take hx))
          generalize (zs.take j).foldl addNew ys = ys' at hR HT HOKz
          obtain ⟨pa, pc, hL, hown⟩ := hR.out
          have r4 := hL.cell hx
          clear zcell hfx hx
          have q1 := hL.q
          have q2 := hL.c8
          have q3 := hL.thaw 8
          have q4 := hL.size
          go_wp2_with fail
          refine (put1 (w.heap.size + 1 + 1) (w.heap.size + 1) (w.heap.size + 3) x _ ys' _ q1 q2 q3 hown (by have := HOKz.out.len; omega) q4 (by omega) (by omega)).mono ?_
          rintro e w3 ⟨rfl, hp⟩
          have HP3 := Lib.hid (HT.out ▸ hR.out.put1 hp)
          clear hp q1 q2 q3 q4 r4 hown hL
          go_wp2
          go_roundg (zs.length - (j + 1))
          case measure => have := hj'.out; omega
          case rel => exact ⟨j + 1, Lib.hid (by omega), by go_num, HP3⟩
        · have HE : Hid ((zs.take j).foldl addNew ys = zs.foldl addNew ys) := Lib.hid (by rw [List.take_of_length_le (by omega)])
          go_wp2_with fail
          obtain ⟨pa, pc, hL, hown⟩ := hR.out
          have q1 := hL.q
          have q2 := hL.c8
          have q3 := hL.thaw 8
          have q4 := hL.size
          refine (put1 (w.heap.size + 1 + 1) (w.heap.size + 1) (w.heap.size + 3) i _ _ _ q1 q2 q3 hown (by have := (Okl.addAll (xs := zs.take j) HOKy.out fun x hx => (HZ.out).2 x (List.mem_of_mem_take hx)).len; omega) q4 (by omega) (by omega)).mono ?_
          rintro e w3 ⟨rfl, hp⟩
          have HP3 : Hid (PS w nm v1 v2 v5 fl ld ab (d + 1) ((is.take (k + 1)).foldl (stepC m) cl) w3) := Lib.hid (by
            have := hR.out.put1 hp
            rw [← foldl_take_succ (stepC m) is k hlt, HYS.out, HI.out]
            unfold stepC
            rw [HY.out, ← HE.out]
            exact this)
          clear hp q1 q2 q3 q4 hown hL
          go_wp2
          go_roundg (is.length - (k + 1))
          case measure => have := hk'.out; omega
          case rel => exact ⟨k + 1, Lib.hid (by omega), by go_num, HP3⟩
    · have HE : Hid ((is.take k).foldl (stepC m) cl = is.foldl (stepC m) cl) := Lib.hid (by rw [List.take_of_length_le (by omega)])
      obtain ⟨pa, pc, hL, hown⟩ := hP.out
      have r1 := hL.cell h1
      have r0 := hL.q
      have rz := hL.size
      go_wp2_with fail
      have hrow1 := row_of_block HROW.out fun k hk => hL.old k (HAP.out k hk).2.2
      have hmap1 := map_of_block HMAP.out (hL.old bm HMAP.out.lt)
      have hnew : ∀ j u, ([.pointer (some ⟨w.heap.size + 1, 0, none⟩)] : List Value)[j]? = some u → ((wr.alloc (Obj.cells #[Value.pointer (some ⟨w.heap.size + 1, 0, none⟩)] 88)).drew).cell? ((⟨wr.heap.size, 0, none⟩ : Addr).add j) = some u := by
        intro j u hu
        cases j with
        | zero =>
          obtain rfl : Value.pointer (some ⟨w.heap.size + 1, 0, none⟩) = u := by simpa using hu
          show (wr.alloc _).cell? ⟨wr.heap.size, 0, none⟩ = _
          rw [World.cell?_alloc_new]; rfl
        | succ j => simp at hu
      have HNEW := Lib.hid hnew
      clear hnew
      have keep : ∀ w1 : World, (wr.alloc (Obj.cells #[Value.pointer (some ⟨w.heap.size + 1, 0, none⟩)] 88)).drew.grownBy w1 ((Value.slice (some ⟨g, 0, none⟩) n cap)).ownBlock → ∀ k, k < wr.heap.size → ((Value.slice (some ⟨g, 0, none⟩) n cap)).ownBlock ≠ some k → w1.heap[k]? = wr.heap[k]? := fun w1 hg k hk1 hk2 =>
        (hg.block k (by simp; omega) (fun e => hk2 e.symm)).trans (Below.heap_alloc wr _ k hk1)
      have HKEEP := Lib.hid keep
      clear keep
      have key : ∀ w1 : World, (wr.alloc (Obj.cells #[Value.pointer (some ⟨w.heap.size + 1, 0, none⟩)] 88)).drew.grownBy w1 ((Value.slice (some ⟨g, 0, none⟩) n cap)).ownBlock → w1.cell? ⟨bw, 0, none⟩ = some (Value.slice (some ⟨g, 0, none⟩) n cap) ∧ w1.frozen? ⟨bw, 0, none⟩ = false := fun w1 hg => by
        have e := HKEEP.out w1 hg bw (by omega) fun e => (HAP.out _ e).1 rfl
        exact ⟨(World.cell?_of_block (w := wr) (a := ⟨bw, 0, none⟩) e).trans r1, ((World.frozen?_of_block (w := wr) (a := ⟨bw, 0, none⟩) e).trans (World.frozen?_of_block (w := w) (a := ⟨bw, 0, none⟩) (hL.old bw b1))).trans (HTH.out 0)⟩
      have HKEY := Lib.hid key
      clear key
      obtain ⟨i0, hi0, hz0, hz1, hz2⟩ := info_parts info_ptr
      clear h2 h3 h8 hcl hk HOK hwr hd HC HIS HPS hSI
      have b1' : bw < wr.heap.size := by omega
      have b4' : w.heap.size + 1 + 1 < wr.heap.size := by omega
      go_region_law (refine step_append_at rfl (.tmp 89) (.tmp 91) 99 rfl 0 88 i0 _ 1 8 Tryz.underlying99 hi0 hz0 hz1 hz2 rfl (by decide) (Value.slice (some ⟨g, 0, none⟩) n cap) n ps (by simp [Act.eval, Act.put]) ((hrow1.alloc _).drew) ⟨wr.heap.size, 0, none⟩ 1 1 [.pointer (some ⟨w.heap.size + 1, 0, none⟩)] (by simp [Act.eval, Act.put]) rfl HNEW.out (by simp [Value.oneCell']) (by unfold maxLen; omega) (by omega) (by simp) ?_; intro v1 w1 hown1 hgrow1 hat1; obtain ⟨g1, cap1, rfl⟩ := own_form hown1; obtain ⟨k1, k2⟩ := HKEY.out w1 hgrow1)
      all_goals
        generalize hw2 : (w1.setCell ⟨bw, 0, none⟩ (.slice (some ⟨g1, 0, none⟩) (n + 1) cap1)) = w2
        have HK2 : Hid (∀ k, k < wr.heap.size → ((Value.slice (some ⟨g, 0, none⟩) n cap)).ownBlock ≠ some k → k ≠ bw → w2.heap[k]? = wr.heap[k]?) := Lib.hid fun k hk1 hk2 hk3 => by
          rw [← hw2, Below.heap_setCell _ _ _ _ hk3]
          exact HKEEP.out w1 hgrow1 k hk1 hk2
        have hbw1 : w1.heap[bw]? = w.heap[bw]? := (HKEEP.out w1 hgrow1 bw (by omega) fun e => (HAP.out _ e).1 rfl).trans (hL.old bw b1)
        have s1 : w2.cell? ⟨bw, 1, none⟩ = some (.map (some bm)) := by
          rw [← hw2, setCell_off (by omega), World.cell?_of_block (w := w) (a := ⟨bw, 1, none⟩) hbw1]; exact HBM.out
        have s2 : w2.cell? ⟨w.heap.size, 0, none⟩ = some (.string nm) := by
          rw [World.cell?_of_block (w := wr) (a := ⟨w.heap.size, 0, none⟩) (HK2.out w.heap.size (by omega) (fun e => by have := (HAP.out _ e).2.2; omega) (by omega))]; exact hL.n0
        have s3 : w2.cell? ⟨bw, 0, none⟩ = some (.slice (some ⟨g1, 0, none⟩) (n + 1) cap1) := by rw [← hw2]; exact setCell_same k1
        have s4 : ∀ j, w2.frozen? ⟨bw, j, none⟩ = false := fun j => by
          rw [← hw2, World.frozen?_setCell, World.frozen?_of_block (w := w) (a := ⟨bw, j, none⟩) hbw1]; exact HTH.out j
        have hmb := HMAP.out.lt
        have hmap2 := map_of_block hmap1 (HK2.out bm (by omega) (fun e => (HAP.out _ e).2.1 rfl) (fun e => hbb e.symm))
        have hg1 : g1 ≠ bw := fun e => by
          rcases hat1 with h | h
          · exact (HAP.out g1 (h.symm.trans rfl)).1 e
          · simp [Value.ownBlock] at h
            omega
        have hrow2 : w2.ownsRow 0 88 1 (.slice (some ⟨g1, 0, none⟩) (n + 1) cap1) (n + 1) (ps ++ [.pointer (some ⟨w.heap.size + 1, 0, none⟩)]) := row_of_block hown1 fun k hk => by
          obtain rfl : g1 = k := by simpa [Value.ownBlock] using hk
          rw [← hw2]
          exact Below.heap_setCell _ _ _ _ hg1
        have hsz2 : wr.heap.size ≤ w2.heap.size ∧ w2.os = wr.os ∧ w2.tape = wr.tape ∧ w2.output = wr.output := by
          rw [← hw2]
          refine ⟨?_, hgrow1.os, hgrow1.tape, hgrow1.output⟩
          have := hgrow1.size
          simp at this ⊢
          omega
        have HAT := Lib.hid hat1
        have HROW2 := Lib.hid hrow2
        have HS2 := Lib.hid hsz2
        have HTH2 := Lib.hid s4
        have HS3 := Lib.hid s3
        have HM2 := Lib.hid hmap2
        clear hw2 hown1 hgrow1 k1 k2 hbw1 hrow2 hsz2 s4 s3 hmap2 hat1 HKEEP HKEY HNEW hrow1 hmap1
        go_wp2_with fail
        go_still_tail 7, (by kernel_rfl)
        change wpList _ _ _ _ _ w2.drew
        refine wpList_mapUpdate_own _ rfl (.tmp 98) (.tmp 100) (.tmp 101) 100 rfl 9 3 (Maps.string_keyed Tryz.underlying9) Tryz.underlying100 (plainElem Tryz.prog 3) bm n D (by simp [Act.eval, Act.put]) HM2.out.drew (by unfold maxLen; omega) (.string nm) (.int .i64 n) (keyL nm) (by simp [Act.eval, Act.put]) (by simp [Act.eval, Act.put]) (WideMaps.keyOf_string_mk Tryz.underlying9 hnm) (numD n) [] (plainElem_int Tryz.underlying3 (num_wf (by omega))) ?_
        intro w4 hm4 hg4
        have hgs := hg4.size
        have hgs' : w2.heap.size ≤ w4.heap.size := by simpa using hgs
        have hz2 := HS2.out.1
        have eb : w4.heap[bw]? = w2.heap[bw]? := hg4.block bw (by simp; omega) (by intro e; injection e with e; exact hbb e)
        have fin : PutRaw w w4 bw bm n (Value.slice (some ⟨g, 0, none⟩) n cap) ps D nm v1 v2 v5 fl ld ab (d + 1) (is.foldl (stepC m) cl) := by
          refine ⟨⟨wr, HE.out ▸ hP.out, fun k e1 e2 e3 e4 => (hg4.block k (by simp; omega) (by intro e; injection e with e; exact e4 e)).trans (HK2.out k e1 e2 e3), by omega, hg4.os.trans HS2.out.2.1, hg4.tape.trans HS2.out.2.2.1, hg4.output.trans HS2.out.2.2.2, _, (World.cell?_of_block (w := w2) (a := ⟨bw, 0, none⟩) eb).trans HS3.out, ?_, ?_⟩, (World.cell?_of_block (w := w2) (a := ⟨bw, 1, none⟩) eb).trans s1, fun j => (World.frozen?_of_block (w := w2) (a := ⟨bw, j, none⟩) eb).trans (HTH2.out j), hm4⟩
          · refine row_of_block HROW2.out fun k hk => ?_
            obtain rfl : g1 = k := by simpa [Value.ownBlock] using hk
            have hg1 : g1 ≠ bm ∧ g1 < w2.heap.size := by
              refine ⟨fun e => ?_, ?_⟩
              · rcases HAT.out with h | h
                · exact (HAP.out g1 (h.symm.trans rfl)).2.1 e
                · have := HMAP.out.lt
                  simp [Value.ownBlock] at h
                  omega
              · exact (HROW2.out.lt g1 rfl).2
            exact hg4.block g1 (by simp; omega) (by intro e; injection e with e; exact hg1.1 e)
          · intro k hk
            rcases HAT.out with h | h
            · exact .inl (h.symm.trans hk)
            · right
              obtain rfl : g1 = k := by simpa [Value.ownBlock] using hk
              simp [Value.ownBlock] at h
              omega
        have FIN := Lib.hid fin
        clear fin
        go_wp2
        go_ret
        exact ⟨rfl, FIN.out⟩
end Go.Proofs.YtipinmbpdgjalaaGreatDoor.Hi
/- The walk of put at the first class. -/
set_option maxRecDepth 100000
set_option maxHeartbeats 8000000
set_option linter.unusedVariables false
set_option linter.unusedSimpArgs false
namespace Go.Proofs.YtipinmbpdgjalaaGreatDoor.Hi
open Go.RowKit Bs

theorem put_root (bw bm : Nat) (D : DataW Unit) (v1 v2 v5 : Value) (nm : ByteArray) (fl ld : Int) (w : World) (h1 : w.cell? ⟨bw, 0, none⟩ = some (Value.slice none 0 0))
    (hmap : w.ownsMap Tryz.prog 9 (plainElem Tryz.prog 3) bm 0 D) (hbm : w.cell? ⟨bw, 1, none⟩ = some (.map (some bm))) (hth : ∀ j, w.frozen? ⟨bw, j, none⟩ = false) (hbb : bw ≠ bm) (hnm : nm.size ≤ maxLen) :
    Calls Tryz.prog 51 #[.pointer (some ⟨bw, 0, none⟩), .agg #[.string nm, v1, v2, .int .i64 fl, .int .i64 ld, v5], .int .i64 (-1), .slice none 0 0] w fun e w' => e = .returned (.int .i64 0) ∧ PutRaw w w' bw bm 0 (Value.slice none 0 0) [] D nm v1 v2 v5 fl ld (-1) 0 [] := by
  have HROW := Lib.hid (World.ownsRow_nil w 0 88 1)
  have HMAP := Lib.hid hmap
  have HTH := Lib.hid hth
  have HAP : Hid (∀ k, ((Value.slice none 0 0)).ownBlock = some k → k ≠ bw ∧ k ≠ bm ∧ k < w.heap.size) := Lib.hid fun k hk => by simp [Value.ownBlock] at hk
  have HBM := Lib.hid hbm
  have b1 : bw < w.heap.size := World.block_lt_of_cell? _ _ h1
  obtain ⟨ps, hps⟩ : ∃ ps : List Value, ps = [] := ⟨_, rfl⟩
  obtain ⟨is, his⟩ : ∃ is : List Int, is = [] := ⟨_, rfl⟩
  obtain ⟨n, hn⟩ : ∃ n : Nat, n = 0 := ⟨_, rfl⟩
  clear hmap hth hbm
  go_enter Tryz.func51, Tryz.ntmps51
  go_wp2_with fail
  refine wp_gen (fun W => PS w nm v1 v2 v5 fl ld (-1) 0 [] W) ⟨none, 0, Laid.start _ _ _ _ _ _ _ _ _ _ _, World.ownsRow_nil _ _ _ _⟩ ?_
  intro W hPS
  have HPS := Lib.hid hPS
  clear hPS
  go_loopg [53] 0 (fun gk u wr => u = .int .i64 0 ∧ Hid (PS w nm v1 v2 v5 fl ld (-1) 0 [] wr))
  case atStart => exact ⟨rfl, HPS⟩
  case round =>
    obtain ⟨rfl, hP⟩ := hrel
    have HE : Hid (([] : List Int) = [].foldl (stepC []) []) := Lib.hid rfl
    obtain ⟨pa, pc, hL, hown⟩ := hP.out
    have r1 := hL.cell h1
    have r0 := hL.q
    have rz := hL.size
    go_wp2_with fail
    have hrow1 := row_of_block HROW.out fun k hk => hL.old k (HAP.out k hk).2.2
    have hmap1 := map_of_block HMAP.out (hL.old bm HMAP.out.lt)
    have hnew : ∀ j u, ([.pointer (some ⟨w.heap.size + 1, 0, none⟩)] : List Value)[j]? = some u → ((wr.alloc (Obj.cells #[Value.pointer (some ⟨w.heap.size + 1, 0, none⟩)] 88)).drew).cell? ((⟨wr.heap.size, 0, none⟩ : Addr).add j) = some u := by
      intro j u hu
      cases j with
      | zero =>
        obtain rfl : Value.pointer (some ⟨w.heap.size + 1, 0, none⟩) = u := by simpa using hu
        show (wr.alloc _).cell? ⟨wr.heap.size, 0, none⟩ = _
        rw [World.cell?_alloc_new]; rfl
      | succ j => simp at hu
    have HNEW := Lib.hid hnew
    clear hnew
    have keep : ∀ w1 : World, (wr.alloc (Obj.cells #[Value.pointer (some ⟨w.heap.size + 1, 0, none⟩)] 88)).drew.grownBy w1 ((Value.slice none 0 0)).ownBlock → ∀ k, k < wr.heap.size → ((Value.slice none 0 0)).ownBlock ≠ some k → w1.heap[k]? = wr.heap[k]? := fun w1 hg k hk1 hk2 =>
      (hg.block k (by simp; omega) (fun e => hk2 e.symm)).trans (Below.heap_alloc wr _ k hk1)
    have HKEEP := Lib.hid keep
    clear keep
    have key : ∀ w1 : World, (wr.alloc (Obj.cells #[Value.pointer (some ⟨w.heap.size + 1, 0, none⟩)] 88)).drew.grownBy w1 ((Value.slice none 0 0)).ownBlock → w1.cell? ⟨bw, 0, none⟩ = some (Value.slice none 0 0) ∧ w1.frozen? ⟨bw, 0, none⟩ = false := fun w1 hg => by
      have e := HKEEP.out w1 hg bw (by omega) fun e => (HAP.out _ e).1 rfl
      exact ⟨(World.cell?_of_block (w := wr) (a := ⟨bw, 0, none⟩) e).trans r1, ((World.frozen?_of_block (w := wr) (a := ⟨bw, 0, none⟩) e).trans (World.frozen?_of_block (w := w) (a := ⟨bw, 0, none⟩) (hL.old bw b1))).trans (HTH.out 0)⟩
    have HKEY := Lib.hid key
    clear key
    obtain ⟨i0, hi0, hz0, hz1, hz2⟩ := info_parts info_ptr
    have b1' : bw < wr.heap.size := by omega
    have b4' : w.heap.size + 1 + 1 < wr.heap.size := by omega
    go_region_law (refine step_append_at rfl (.tmp 89) (.tmp 91) 99 rfl 0 88 i0 _ 1 8 Tryz.underlying99 hi0 hz0 hz1 hz2 rfl (by decide) (Value.slice none 0 0) 0 [] (by simp [Act.eval, Act.put]) ((hrow1.alloc _).drew) ⟨wr.heap.size, 0, none⟩ 1 1 [.pointer (some ⟨w.heap.size + 1, 0, none⟩)] (by simp [Act.eval, Act.put]) rfl HNEW.out (by simp [Value.oneCell']) (by unfold maxLen; omega) (by omega) (by simp) ?_; intro v1 w1 hown1 hgrow1 hat1; obtain ⟨g1, cap1, rfl⟩ := own_form hown1; obtain ⟨k1, k2⟩ := HKEY.out w1 hgrow1)
    all_goals
      generalize hw2 : (w1.setCell ⟨bw, 0, none⟩ (.slice (some ⟨g1, 0, none⟩) 1 cap1)) = w2
      have HK2 : Hid (∀ k, k < wr.heap.size → ((Value.slice none 0 0)).ownBlock ≠ some k → k ≠ bw → w2.heap[k]? = wr.heap[k]?) := Lib.hid fun k hk1 hk2 hk3 => by
        rw [← hw2, Below.heap_setCell _ _ _ _ hk3]
        exact HKEEP.out w1 hgrow1 k hk1 hk2
      have hbw1 : w1.heap[bw]? = w.heap[bw]? := (HKEEP.out w1 hgrow1 bw (by omega) fun e => (HAP.out _ e).1 rfl).trans (hL.old bw b1)
      have s1 : w2.cell? ⟨bw, 1, none⟩ = some (.map (some bm)) := by
        rw [← hw2, setCell_off (by omega), World.cell?_of_block (w := w) (a := ⟨bw, 1, none⟩) hbw1]; exact HBM.out
      have s2 : w2.cell? ⟨w.heap.size, 0, none⟩ = some (.string nm) := by
        rw [World.cell?_of_block (w := wr) (a := ⟨w.heap.size, 0, none⟩) (HK2.out w.heap.size (by omega) (fun e => by have := (HAP.out _ e).2.2; omega) (by omega))]; exact hL.n0
      have s3 : w2.cell? ⟨bw, 0, none⟩ = some (.slice (some ⟨g1, 0, none⟩) 1 cap1) := by rw [← hw2]; exact setCell_same k1
      have s4 : ∀ j, w2.frozen? ⟨bw, j, none⟩ = false := fun j => by
        rw [← hw2, World.frozen?_setCell, World.frozen?_of_block (w := w) (a := ⟨bw, j, none⟩) hbw1]; exact HTH.out j
      have hmb := HMAP.out.lt
      have hmap2 := map_of_block hmap1 (HK2.out bm (by omega) (fun e => (HAP.out _ e).2.1 rfl) (fun e => hbb e.symm))
      have hg1 : g1 ≠ bw := fun e => by
        rcases hat1 with h | h
        · exact (HAP.out g1 (h.symm.trans rfl)).1 e
        · simp [Value.ownBlock] at h
          omega
      have hrow2 : w2.ownsRow 0 88 1 (.slice (some ⟨g1, 0, none⟩) 1 cap1) 1 ([] ++ [.pointer (some ⟨w.heap.size + 1, 0, none⟩)]) := row_of_block hown1 fun k hk => by
        obtain rfl : g1 = k := by simpa [Value.ownBlock] using hk
        rw [← hw2]
        exact Below.heap_setCell _ _ _ _ hg1
      have hsz2 : wr.heap.size ≤ w2.heap.size ∧ w2.os = wr.os ∧ w2.tape = wr.tape ∧ w2.output = wr.output := by
        rw [← hw2]
        refine ⟨?_, hgrow1.os, hgrow1.tape, hgrow1.output⟩
        have := hgrow1.size
        simp at this ⊢
        omega
      have HAT := Lib.hid hat1
      have HROW2 := Lib.hid hrow2
      have HS2 := Lib.hid hsz2
      have HTH2 := Lib.hid s4
      have HS3 := Lib.hid s3
      have HM2 := Lib.hid hmap2
      clear hw2 hown1 hgrow1 k1 k2 hbw1 hrow2 hsz2 s4 s3 hmap2 hat1 HKEEP HKEY HNEW hrow1 hmap1
      go_wp2_with fail
      go_still_tail 7, (by kernel_rfl)
      change wpList _ _ _ _ _ w2.drew
      refine wpList_mapUpdate_own _ rfl (.tmp 98) (.tmp 100) (.tmp 101) 100 rfl 9 3 (Maps.string_keyed Tryz.underlying9) Tryz.underlying100 (plainElem Tryz.prog 3) bm 0 D (by simp [Act.eval, Act.put]) HM2.out.drew (by unfold maxLen; omega) (.string nm) (.int .i64 0) (keyL nm) (by simp [Act.eval, Act.put]) (by simp [Act.eval, Act.put]) (WideMaps.keyOf_string_mk Tryz.underlying9 hnm) (numD 0) [] (plainElem_int Tryz.underlying3 (num_wf (n := 0) (Nat.zero_le _))) ?_
      intro w4 hm4 hg4
      have hgs := hg4.size
      have hgs' : w2.heap.size ≤ w4.heap.size := by simpa using hgs
      have hz2 := HS2.out.1
      have eb : w4.heap[bw]? = w2.heap[bw]? := hg4.block bw (by simp; omega) (by intro e; injection e with e; exact hbb e)
      have fin : PutRaw w w4 bw bm 0 (Value.slice none 0 0) [] D nm v1 v2 v5 fl ld (-1) 0 ([]) := by
        refine ⟨⟨wr, hP.out, fun k e1 e2 e3 e4 => (hg4.block k (by simp; omega) (by intro e; injection e with e; exact e4 e)).trans (HK2.out k e1 e2 e3), by omega, hg4.os.trans HS2.out.2.1, hg4.tape.trans HS2.out.2.2.1, hg4.output.trans HS2.out.2.2.2, _, (World.cell?_of_block (w := w2) (a := ⟨bw, 0, none⟩) eb).trans HS3.out, ?_, ?_⟩, (World.cell?_of_block (w := w2) (a := ⟨bw, 1, none⟩) eb).trans s1, fun j => (World.frozen?_of_block (w := w2) (a := ⟨bw, j, none⟩) eb).trans (HTH2.out j), hm4⟩
        · refine row_of_block HROW2.out fun k hk => ?_
          obtain rfl : g1 = k := by simpa [Value.ownBlock] using hk
          have hg1 : g1 ≠ bm ∧ g1 < w2.heap.size := by
            refine ⟨fun e => ?_, ?_⟩
            · rcases HAT.out with h | h
              · exact (HAP.out g1 (h.symm.trans rfl)).2.1 e
              · have := HMAP.out.lt
                simp [Value.ownBlock] at h
                omega
            · exact (HROW2.out.lt g1 rfl).2
          exact hg4.block g1 (by simp; omega) (by intro e; injection e with e; exact hg1.1 e)
        · intro k hk
          rcases HAT.out with h | h
          · exact .inl (h.symm.trans hk)
          · right
            obtain rfl : g1 = k := by simpa [Value.ownBlock] using hk
            simp [Value.ownBlock] at h
            omega
      have FIN := Lib.hid fin
      clear fin
      go_wp2
      go_ret
      exact ⟨rfl, FIN.out⟩
end Go.Proofs.YtipinmbpdgjalaaGreatDoor.Hi
/- put: from cells to worlds of classes. -/
set_option maxRecDepth 100000
set_option linter.unusedVariables false
set_option linter.unusedSimpArgs false
namespace Go.Proofs.YtipinmbpdgjalaaGreatDoor.Hi
open Go.RowKit Bs

def depthAt (m : List EntM) (i : Int) : Int := ((m[i.toNat]?).map EntM.depth).getD 0
/-- The entry that put lays. -/
def putEnt (m : List EntM) (c : ClsM) (ab : Int) (is : List Int) : EntM :=
  { c := c, above := ab, depth := if ab < 0 then 0 else depthAt m ab + 1, closure := is.foldl (stepC m) (if ab < 0 then [] else closAt m ab) }

theorem closAt_at {m : List EntM} {i : Nat} (h : i < m.length) : closAt m i = m[i].closure := by unfold closAt; simp [h]
theorem depthAt_at {m : List EntM} {i : Nat} (h : i < m.length) : depthAt m i = m[i].depth := by unfold depthAt; simp [h]

/-- Where a class may be laid. -/
def PutAt (m : List EntM) (ab : Int) (is : List Int) : Prop := (m = [] ∧ ab = -1 ∧ is = []) ∨ (0 ≤ ab ∧ ab < m.length ∧ ∀ x ∈ is, 0 ≤ x ∧ x < m.length)

theorem WFm.put {m : List EntM} (h : WFm m) (c : ClsM) {ab : Int} {is : List Int} (hp : PutAt m ab is) (hl : m.length < 300) (hn : nameIx m c.name = none) : WFm (m ++ [putEnt m c ab is]) := by
  have hclos : ∀ x y, y ∈ closAt m x → 0 ≤ y ∧ y < m.length := fun x y hy => by
    unfold closAt at hy
    cases hx : m[x.toNat]? with
    | none => rw [hx] at hy; simp at hy
    | some e =>
      rw [hx] at hy
      obtain ⟨hl, rfl⟩ := List.getElem?_eq_some_iff.1 hx
      have := (h.closed _ hl).2 y (by simpa using hy)
      omega
  refine ⟨by simp; omega, fun i hi => ?_, fun i hi => ?_, fun i hi => ?_, fun i hi => ?_⟩
  · by_cases e : i < m.length
    · simp only [List.getElem_append_left e]; exact h.above i e
    · have e' : i = m.length := by simp at hi; omega
      subst e'
      simp [putEnt]
      rcases hp with ⟨rfl, rfl, _⟩ | ⟨h1, h2, _⟩
      · simp
      · refine ⟨by omega, h2, ?_⟩
        constructor
        · intro; omega
        · rintro rfl; simp at h2; omega
  · by_cases e : i < m.length
    · simp only [List.getElem_append_left e]
      obtain ⟨d1, d2, d3, d4⟩ := h.depth i e
      refine ⟨d1, d2, fun k hk ha => ?_, d4⟩
      have := (h.above i e).2.1
      have hk' : k < m.length := by omega
      rw [List.getElem_append_left hk']
      exact d3 k hk' ha
    · have e' : i = m.length := by simp at hi; omega
      subst e'
      simp only [List.getElem_concat_length]
      rcases hp with ⟨rfl, rfl, _⟩ | ⟨h1, h2, _⟩
      · simp [putEnt]
      · obtain ⟨a, rfl⟩ : ∃ a : Nat, ab = a := ⟨ab.toNat, by omega⟩
        have ha : a < m.length := by omega
        obtain ⟨d1, d2, d3, d4⟩ := h.depth a ha
        simp only [putEnt, show ¬((a : Int) < 0) by omega, if_false, depthAt_at ha]
        refine ⟨by omega, by omega, fun k hk hk2 => ?_, fun e => by omega⟩
        obtain rfl : a = k := by omega
        rw [List.getElem_append_left ha]
  · by_cases e : i < m.length
    · simp only [List.getElem_append_left e]; exact h.closed i e
    · have e' : i = m.length := by simp at hi; omega
      subst e'
      simp only [List.getElem_concat_length]
      have : Okl m.length (putEnt m c ab is).closure := by
        rcases hp with ⟨rfl, rfl, rfl⟩ | ⟨h1, h2, h3⟩
        · exact Okl.nil _
        · obtain ⟨a, rfl⟩ : ∃ a : Nat, ab = a := ⟨ab.toNat, by omega⟩
          have ha : a < m.length := by omega
          simp only [putEnt, show ¬((a : Int) < 0) by omega, if_false]
          refine Okl.steps hclos ⟨?_, hclos a⟩ h3
          rw [closAt_at ha]
          exact (h.closed a ha).1
      exact this
  · rw [nameIx_append]
    by_cases e : i < m.length
    · simp only [List.getElem_append_left e]
      rw [h.names i e]; rfl
    · have e' : i = m.length := by simp at hi; omega
      subst e'
      simp only [List.getElem_concat_length]
      simp [putEnt, hn]

theorem own_live {w : World} {B : Nat} {E : TypeId} {v : Value} {n size : Nat} {xs : List Value} (h : w.ownsRow B E size v n xs) {g : Nat} (hg : v.ownBlock = some g) : B ≤ g ∧ g < w.heap.size := h.lt g hg

theorem PutRaw.world {T S0 S : Nat → Prop} {w w' : World} {bw bm : Nat} {va : Value} {ps : List Value} {D : DataW Unit} {m : List EntM} {c : ClsM} {iv mv : Value} {ab : Int} {is : List Int}
    (hr : PutRaw w w' bw bm m.length va ps D c.name (.string c.super) iv mv c.flags c.loader ab (putEnt m c ab is).depth (putEnt m c ab is).closure) (h : HWF T bw va bm ps D w m)
    (hS : S bw ∧ S bm ∧ (∀ g, va.ownBlock = some g → S g) ∧ ∀ k, T k → S k)
    (hc : ClsIs S0 w [.string c.name, .string c.super, iv, .int .i64 c.flags, .int .i64 c.loader, mv] c) (hS0 : ∀ k, S0 k → k < w.heap.size ∧ ¬ S k)
    (hp : PutAt m ab is) (hl : m.length < 300) (hn : nameIx m c.name = none) :
    HW (fun k => S k ∨ S0 k ∨ (w.heap.size ≤ k ∧ k < w'.heap.size)) bw w' (m ++ [putEnt m c ab is]) ∧ Chg S w w' := by
  have wf' := h.wf.put c hp hl hn
  obtain ⟨⟨W, ⟨pa, pc, hL, hown⟩, hblk, hsz, hos, htp, hout, v', hv', hrow', hat'⟩, hbn, hth, hmap'⟩ := hr
  have hz := hL.size
  have hbw : bw < w.heap.size := World.block_lt_of_cell? _ _ h.all
  have hbm := h.map.lt
  have hro : ∀ g, va.ownBlock = some g → g < w.heap.size := fun g hg => (own_live h.row hg).2
  have hT : ∀ k, T k → w'.heap[k]? = w.heap[k]? := fun k hk => by
    have := h.live k hk
    refine (hblk k (by omega) (fun e => (h.apart.2.2.1 k e).1 hk) (fun e => h.apart.1 (e ▸ hk)) (fun e => h.apart.2.1 (e ▸ hk))).trans (hL.old k this)
  have hT0 : ∀ k, S0 k → w'.heap[k]? = w.heap[k]? := fun k hk => by
    obtain ⟨h1, h2⟩ := hS0 k hk
    exact (hblk k (by omega) (fun e => h2 (hS.2.2.1 k e)) (fun e => h2 (e ▸ hS.1)) (fun e => h2 (e ▸ hS.2.1))).trans (hL.old k h1)
  have hne : ∀ k, w.heap.size ≤ k → k < W.heap.size → w'.heap[k]? = W.heap[k]? := fun k h1 h2 =>
    hblk k h2 (fun e => by have := hro k e; omega) (by omega) (by omega)
  have cel : ∀ {j : Nat} {v : Value}, W.cell? ⟨w.heap.size + 1, j, none⟩ = some v → w'.cell? ⟨w.heap.size + 1, j, none⟩ = some v := fun hv =>
    (World.cell?_of_block (w := W) (hne (w.heap.size + 1) (by omega) (by omega))).trans hv
  have hlen := (wf'.closed m.length (by simp))
  simp only [List.getElem_concat_length] at hlen
  refine ⟨⟨fun k => T k ∨ S0 k ∨ (w.heap.size ≤ k ∧ k < W.heap.size), v', bm, ps ++ [.pointer (some ⟨w.heap.size + 1, 0, none⟩)], D.put (keyL c.name) (numD m.length), ⟨hv', hbn, hth, ?_, ?_, h.reads.put h.map.isMap (putEnt m c ab is) hn, ?_, ?_, ?_, wf'⟩, .inl hS.1, .inl hS.2.1, ?_, ?_⟩, ?_⟩
  · simpa using hrow'
  · simpa using hmap'
  · intro i hi
    have hpl : ps.length = m.length := by have := h.row.1; simpa using this
    by_cases e : i < m.length
    · obtain ⟨v, h1, h2⟩ := h.ents i e
      refine ⟨v, by rw [List.getElem?_append_left (by omega)]; exact h1, ?_⟩
      rw [List.getElem_append_left e]
      exact (h2.alike hT).mono fun k hk => .inl hk
    · have e' : i = m.length := by simp at hi; omega
      subst e'
      refine ⟨.pointer (some ⟨w.heap.size + 1, 0, none⟩), by rw [← hpl]; simp, ?_⟩
      simp only [List.getElem_concat_length]
      refine ⟨w.heap.size + 1, _, _, rfl, .inr (.inr ⟨by omega, by omega⟩), rfl, ?_, (hc.alike hT0).mono fun k hk => .inr (.inl hk), cel hL.c6, cel hL.c7, cel hL.c8, ?_⟩
      · intro j hj
        match j, hj with
        | 0, _ => exact cel hL.c0
        | 1, _ => exact cel hL.c1
        | 2, _ => exact cel hL.c2
        | 3, _ => exact cel hL.c3
        | 4, _ => exact cel hL.c4
        | 5, _ => exact cel hL.c5
      · have hown' := row_of_block (w' := w') hown fun k hk => by
          obtain ⟨h1, h2⟩ := own_live hown hk
          exact hne k (by omega) h2
        have hok : Okl m.length (putEnt m c ab is).closure := hlen
        have := hok.len
        refine IntSl.of_own hown' (fun x hx => ?_) (by omega) _ fun b hb => ?_
        · have := hok.2 x hx
          unfold Fits; omega
        · obtain ⟨h1, h2⟩ := own_live hown hb
          exact .inr (.inr ⟨by omega, h2⟩)
  · rintro k (hk | hk | hk)
    · have := h.live k hk; omega
    · have := (hS0 k hk).1; omega
    · omega
  · have hx : ∀ k, k < w.heap.size → ¬ T k → ¬ S0 k → ¬ (T k ∨ S0 k ∨ (w.heap.size ≤ k ∧ k < W.heap.size)) := fun k h1 h2 h3 => by
      rintro (h | h | h)
      · exact h2 h
      · exact h3 h
      · omega
    refine ⟨hx bw hbw h.apart.1 fun e => (hS0 _ e).2 hS.1, hx bm hbm h.apart.2.1 fun e => (hS0 _ e).2 hS.2.1, fun g hg => ?_, h.apart.2.2.2⟩
    rcases hat' g hg with hg' | hg'
    · obtain ⟨a1, a2, a3⟩ := h.apart.2.2.1 g hg'
      exact ⟨hx g (hro g hg') a1 fun e => (hS0 _ e).2 (hS.2.2.1 g hg'), a2, a3⟩
    · refine ⟨?_, by omega, by omega⟩
      rintro (h' | h' | h')
      · have := h.live g h'; omega
      · have := (hS0 g h').1; omega
      · omega
  · intro g hg
    rcases hat' g hg with hg' | hg'
    · exact .inl (hS.2.2.1 g hg')
    · have := (own_live hrow' hg).2
      exact .inr (.inr ⟨by omega, this⟩)
  · rintro k (hk | hk | hk)
    · exact .inl (hS.2.2.2 k hk)
    · exact .inr (.inl hk)
    · exact .inr (.inr ⟨hk.1, by omega⟩)
  · refine ⟨hos.trans hL.os, htp.trans hL.tape, hout.trans hL.output, by omega, fun k h1 h2 => ?_⟩
    exact (hblk k (by omega) (fun e => h2 (hS.2.2.1 k e)) (fun e => h2 (e ▸ hS.1)) (fun e => h2 (e ▸ hS.2.1))).trans (hL.old k h1)

/-- put's contract, at the first class. -/
theorem put_first {T S S0 : Nat → Prop} {bw bm : Nat} {D : DataW Unit} {c : ClsM} {cs : List Value} {w : World}
    (h : HWF T bw (.slice none 0 0) bm [] D w []) (hS : S bw ∧ S bm ∧ ∀ k, T k → S k) (hc : ClsIs S0 w cs c) (hS0 : ∀ k, S0 k → k < w.heap.size ∧ ¬ S k) :
    Calls Tryz.prog 51 #[.pointer (some ⟨bw, 0, none⟩), .agg cs.toArray, .int .i64 (-1), .slice none 0 0] w fun e w' => e = .returned (.int .i64 0) ∧
      HW (fun k => S k ∨ S0 k ∨ (w.heap.size ≤ k ∧ k < w'.heap.size)) bw w' [putEnt [] c (-1) []] ∧ Chg S w w' := by
  have hc' := hc
  obtain ⟨iv', mv, rfl, c1, c2, c3, c4, c5, c6⟩ := hc
  refine (put_root bw bm D (.string c.super) iv' mv c.name c.flags c.loader w h.all h.map h.byName h.thaw h.apart.2.2.2 c1).mono ?_
  rintro e w' ⟨rfl, hr⟩
  exact ⟨rfl, PutRaw.world (m := []) hr h ⟨hS.1, hS.2.1, fun g hg => by simp [Value.ownBlock] at hg, hS.2.2⟩ hc' hS0 (.inl ⟨rfl, rfl, rfl⟩) (by simp) rfl⟩

/-- put's contract. -/
theorem put {S S0 SI : Nat → Prop} {bw : Nat} {m : List EntM} {c : ClsM} {cs : List Value} {ab : Int} {iv : Value} {is : List Int} {w : World}
    (h : HW S bw w m) (hc : ClsIs S0 w cs c) (hS0 : ∀ k, S0 k → k < w.heap.size ∧ ¬ S k) (hp : 0 ≤ ab ∧ ab < m.length ∧ ∀ x ∈ is, 0 ≤ x ∧ x < m.length) (hl : m.length < 300) (hn : nameIx m c.name = none)
    (hi : IntSl SI w iv is) (hSI : ∀ k, SI k → k < w.heap.size) :
    Calls Tryz.prog 51 #[.pointer (some ⟨bw, 0, none⟩), .agg cs.toArray, .int .i64 ab, iv] w fun e w' => e = .returned (.int .i64 m.length) ∧
      HW (fun k => S k ∨ S0 k ∨ (w.heap.size ≤ k ∧ k < w'.heap.size)) bw w' (m ++ [putEnt m c ab is]) ∧ Chg S w w' := by
  obtain ⟨T, va, bm, ps, D, h1, h2, h3, h4, h5⟩ := h
  have hc' := hc
  obtain ⟨iv', mv, rfl, c1, c2, c3, c4, c5, c6⟩ := hc
  obtain ⟨p1, p2, p3⟩ := hp
  obtain ⟨a, rfl⟩ : ∃ a : Nat, ab = a := ⟨ab.toNat, by omega⟩
  have ha : a < m.length := by omega
  obtain ⟨ia, ic, rfl⟩ := hi.form
  obtain ⟨g, cap, rfl, hk⟩ := h1.looks (by omega)
  refine (put_walk T SI bw g cap a m.length bm ps D m (.string c.super) iv' mv c.name c.flags c.loader ia ic is w hk ha hi hSI p3 h1.row h1.map h1.byName h1.thaw
    (fun k hk => ⟨(h1.apart.2.2.1 k hk).2.1, (h1.apart.2.2.1 k hk).2.2, (own_live h1.row hk).2⟩) h1.apart.2.2.2 c1).mono ?_
  rintro e w' ⟨rfl, hr⟩
  refine ⟨rfl, PutRaw.world (T := T) ?_ h1 ⟨h2, h3, h4, h5⟩ hc' hS0 (.inr ⟨p1, p2, p3⟩) hl hn⟩
  simpa [putEnt, show ¬((a : Int) < 0) by omega, closAt_at ha, depthAt_at ha] using hr
end Go.Proofs.YtipinmbpdgjalaaGreatDoor.Hi
/- The first class; slices laid at once. -/
set_option maxRecDepth 100000
set_option maxHeartbeats 8000000
set_option linter.unusedVariables false
set_option linter.unusedSimpArgs false
namespace Go.Proofs.YtipinmbpdgjalaaGreatDoor.Hi
open Go.RowKit Bs

theorem flat_at {α : Type} {k : Nat} : ∀ (css : List (List α)), (∀ cs ∈ css, cs.length = k) → ∀ i (h : i < css.length) j, j < k → css.flatten[i * k + j]? = css[i][j]?
  | [], _, i, h, _, _ => absurd h (by simp)
  | cs :: r, hk, 0, h, j, hj => by
    have h0 : cs.length = k := hk cs (by simp)
    simp only [List.flatten_cons, Nat.zero_mul, Nat.zero_add, List.getElem_cons_zero]
    rw [List.getElem?_append_left (by omega)]
  | cs :: r, hk, i + 1, h, j, hj => by
    have h0 : cs.length = k := hk cs (by simp)
    have ih := flat_at r (fun c hc => hk c (by simp [hc])) i (by simpa using h) j hj
    simp only [List.flatten_cons, List.getElem_cons_succ]
    rw [List.getElem?_append_right (by rw [h0, Nat.add_mul]; omega)]
    rw [show (i + 1) * k + j - cs.length = i * k + j by rw [h0, Nat.add_mul]; omega]
    exact ih

/-- A slice that lies in a block of its own. -/
theorem Sl.of_block {α : Type} {S : Nat → Prop} {k bytes : Nat} {R : World → List Value → α → Prop} {w : World} {b : Nat} {C : Array Value} {t : TypeId} {fr : Nat × Nat} (hb : w.heap[b]? = some (.cells C t fr)) (hS : S b)
    {xs : List α} (css : List (List Value)) (hl : css.length = xs.length) (hk : ∀ cs ∈ css, cs.length = k) {rest : List Value} (hC : C.toList = css.flatten ++ rest) (hR : ∀ i (h : i < xs.length), R w (css[i]'(hl ▸ h)) xs[i]) {n c : Nat} (hn : n = xs.length) (hc : n ≤ c)
    (hby : n * bytes ≤ 140737488355328) : Sl S k bytes R w (.slice (some ⟨b, 0, none⟩) n c) xs := by
  subst hn
  refine ⟨_, c, rfl, hc, hby, .inr ⟨b, 0, rfl, hS, fun i hi => ⟨css[i]'(hl ▸ hi), hk _ (List.getElem_mem _), fun j hj => ?_, hR i hi⟩⟩⟩
  have hkl := hk _ (List.getElem_mem (hl ▸ hi))
  have h1 := (flat_at css hk i (hl ▸ hi) j (by omega)).trans (List.getElem?_eq_getElem hj)
  have h2 : C[i * k + j]? = some (css[i]'(hl ▸ hi))[j] := by
    rw [← Array.getElem?_toList, hC, List.getElem?_append_left (List.getElem?_eq_some_iff.1 h1).1, h1]
  simp only [World.cell?, hb]
  simpa using h2

/-- Blocks one after the other. -/
def allocs (w : World) (os : List Obj) : World := os.foldl World.alloc w
theorem allocs_size : ∀ (os : List Obj) (w : World), (allocs w os).heap.size = w.heap.size + os.length
  | [], w => by simp [allocs]
  | o :: r, w => by
    have := allocs_size r (w.alloc o)
    simp only [allocs, List.foldl_cons] at this ⊢
    rw [this]; simp; omega
theorem allocs_old : ∀ (os : List Obj) (w : World) (k : Nat), k < w.heap.size → (allocs w os).heap[k]? = w.heap[k]?
  | [], w, k, h => rfl
  | o :: r, w, k, h => by
    have := allocs_old r (w.alloc o) k (by simp; omega)
    simp only [allocs, List.foldl_cons] at this ⊢
    rw [this]; exact Below.heap_alloc w o k h
theorem allocs_at : ∀ (os : List Obj) (w : World) (i : Nat) (h : i < os.length), (allocs w os).heap[w.heap.size + i]? = some os[i]
  | [], w, i, h => absurd h (by simp)
  | o :: r, w, 0, h => by
    have := allocs_old r (w.alloc o) w.heap.size (by simp)
    simp only [allocs, List.foldl_cons, Nat.add_zero, List.getElem_cons_zero] at this ⊢
    rw [this]
    exact heap_alloc_new w o
  | o :: r, w, i + 1, h => by
    have := allocs_at r (w.alloc o) i (by simpa using h)
    simp only [allocs, List.foldl_cons, List.getElem_cons_succ] at this ⊢
    rw [← this]
    congr 1
    simp; omega
theorem allocs_below (os : List Obj) (w : World) : Below w.heap.size w (allocs w os) := by
  refine ⟨?_, ?_, ?_, by rw [allocs_size]; omega, fun k hk => allocs_old os w k hk⟩
  all_goals
    induction os generalizing w with
    | nil => rfl
    | cons o r ih => exact ih (w.alloc o)

def es : ByteArray := ⟨#[]⟩
def noRef : RefM := ⟨false, es, es, es⟩
def instM (op n : Int) : InstM := ⟨op, n, es, noRef⟩
/-- The class Object. -/
def objM : ClsM := { name := ⟨#[79, 98, 106, 101, 99, 116]⟩, super := es, ifaces := [], flags := 33, loader := 0, meths := [
  ⟨⟨#[60, 105, 110, 105, 116, 62]⟩, ⟨#[40, 41, 86]⟩, 1, 1, 0, [instM 38 0]⟩,
  ⟨⟨#[105, 100]⟩, ⟨#[40, 41, 73]⟩, 1, 1, 1, [instM 1 7, instM 36 0]⟩,
  ⟨⟨#[107, 105, 110]⟩, ⟨#[40, 41, 76, 79, 98, 106, 101, 99, 116, 59]⟩, 4, 1, 1, [instM 4 0, instM 37 0]⟩] }

def instCells (op n : Int) : List Value := [.int .i64 op, .int .i64 n, .string ⟨#[]⟩, .bool false, .string ⟨#[]⟩, .string ⟨#[]⟩, .string ⟨#[]⟩]
def methCells (nm ds : ByteArray) (f l s : Int) (b : Nat) (n : Nat) : List Value := [.string nm, .string ds, .int .i64 f, .int .i64 l, .int .i64 s, .slice (some ⟨b, 0, none⟩) n n]
theorem instIs {w : World} (op n : Int) (h1 : Fits op) (h2 : Fits n) : InstIs w (instCells op n) (instM op n) := ⟨rfl, h1, h2, Nat.zero_le _, Nat.zero_le _, Nat.zero_le _, Nat.zero_le _⟩

def objObjs (B : Nat) : List Obj :=
  [.cells #[.string ⟨#[79, 98, 106, 101, 99, 116]⟩, .string ⟨#[]⟩, .slice none 0 0, .int .i64 33, .int .i64 0, .slice (some ⟨B + 1 + 1 + 1 + 1, 0, none⟩) 3 3] 26,
   .cells (instCells 38 0).toArray 120,
   .cells (instCells 1 7 ++ instCells 36 0).toArray 120,
   .cells (instCells 4 0 ++ instCells 37 0).toArray 120,
   .cells (methCells ⟨#[60, 105, 110, 105, 116, 62]⟩ ⟨#[40, 41, 86]⟩ 1 1 0 (B + 1) 1 ++ methCells ⟨#[105, 100]⟩ ⟨#[40, 41, 73]⟩ 1 1 1 (B + 1 + 1) 2 ++ methCells ⟨#[107, 105, 110]⟩ ⟨#[40, 41, 76, 79, 98, 106, 101, 99, 116, 59]⟩ 4 1 1 (B + 1 + 1 + 1) 2).toArray 55]

theorem class_info : (Tryz.prog.info? 26).map (·.size) = some 6 := by kernel_rfl

theorem object_raw (w : World) :
    Calls Tryz.prog 71 #[] w fun e w' => e = .returned (.agg #[.string ⟨#[79, 98, 106, 101, 99, 116]⟩, .string ⟨#[]⟩, .slice none 0 0, .int .i64 33, .int .i64 0, .slice (some ⟨w.heap.size + 1 + 1 + 1 + 1, 0, none⟩) 3 3]) ∧ w' = allocs w (objObjs w.heap.size) := by
  go_enter Tryz.func71, Tryz.ntmps71
  go_wp2_with fail
  refine bodyPost_ret (v := .agg #[.string ⟨#[79, 98, 106, 101, 99, 116]⟩, .string ⟨#[]⟩, .slice none 0 0, .int .i64 33, .int .i64 0, .slice (some ⟨w.heap.size + 1 + 1 + 1 + 1, 0, none⟩) 3 3]) (results_cell_row rfl _ _ w.heap.size 26 _ (0, 0) _ rfl ?_ Tryz.underlying26 rfl class_info) rfl ⟨rfl, rfl⟩
  exact allocs_at (objObjs w.heap.size) w 0 (by simp [objObjs])

theorem fits_small {x : Int} (h : -1000 ≤ x ∧ x ≤ 1000) : Fits x := by unfold Fits; omega

theorem methIs {S : Nat → Prop} {w : World} (nm ds : ByteArray) (f l s : Int) (b n : Nat) (code : List InstM) (h1 : nm.size ≤ maxLen) (h2 : ds.size ≤ maxLen) (h3 : -1000 ≤ f ∧ f ≤ 1000) (h4 : -1000 ≤ l ∧ l ≤ 1000) (h5 : -1000 ≤ s ∧ s ≤ 1000)
    (h : InstSl S w (.slice (some ⟨b, 0, none⟩) n n) code) : MethIs S w (methCells nm ds f l s b n) ⟨nm, ds, f, l, s, code⟩ := ⟨_, rfl, h1, h2, fits_small h3, fits_small h4, fits_small h5, h⟩

theorem object (w : World) :
    Calls Tryz.prog 71 #[] w fun e w' => ∃ cs, e = .returned (.agg cs.toArray) ∧ ClsIs (fun k => w.heap.size ≤ k ∧ k < w'.heap.size) w' cs objM ∧ Below w.heap.size w w' := by
  refine (object_raw w).mono ?_
  rintro e w' ⟨rfl, rfl⟩
  have hz : (allocs w (objObjs w.heap.size)).heap.size = w.heap.size + 5 := allocs_size _ _
  have h1 := allocs_at (objObjs w.heap.size) w 1 (by simp [objObjs])
  have h2 := allocs_at (objObjs w.heap.size) w 2 (by simp [objObjs])
  have h3 := allocs_at (objObjs w.heap.size) w 3 (by simp [objObjs])
  have h4 := allocs_at (objObjs w.heap.size) w 4 (by simp [objObjs])
  refine ⟨[_, _, _, _, _, _], rfl, ⟨_, _, rfl, by decide, by decide, ⟨none, 0, rfl, Nat.le_refl _, by decide, .inl rfl⟩, fits_small (by decide), fits_small (by decide), ?_⟩, allocs_below _ _⟩
  refine Sl.of_block (rest := []) (S := (fun k => w.heap.size ≤ k ∧ k < (allocs w (objObjs w.heap.size)).heap.size)) (k := 6) (bytes := 80) (R := MethIs (fun k => w.heap.size ≤ k ∧ k < (allocs w (objObjs w.heap.size)).heap.size)) (xs := objM.meths) h4 ⟨by omega, by omega⟩ [methCells _ _ _ _ _ _ _, methCells _ _ _ _ _ _ _, methCells _ _ _ _ _ _ _] rfl (by simp [methCells]) rfl ?_ rfl (Nat.le_refl 3) (by decide)
  intro i hi
  match i, hi with
  | 0, _ =>
    refine methIs ⟨#[60, 105, 110, 105, 116, 62]⟩ ⟨#[40, 41, 86]⟩ 1 1 0 (w.heap.size + 1) 1 [instM 38 0] (by decide) (by decide) (by decide) (by decide) (by decide) ?_
    refine Sl.of_block (rest := []) (S := (fun k => w.heap.size ≤ k ∧ k < (allocs w (objObjs w.heap.size)).heap.size)) (k := 7) (bytes := 88) (R := InstIs) (xs := [instM 38 0]) h1 ⟨by omega, by omega⟩ [instCells 38 0] rfl (by simp [instCells]) rfl ?_ rfl (Nat.le_refl 1) (by decide)
    intro j hj
    match j, hj with
    | 0, _ => exact instIs _ _ (fits_small (by decide)) (fits_small (by decide))
  | 1, _ =>
    refine methIs ⟨#[105, 100]⟩ ⟨#[40, 41, 73]⟩ 1 1 1 (w.heap.size + 1 + 1) 2 [instM 1 7, instM 36 0] (by decide) (by decide) (by decide) (by decide) (by decide) ?_
    refine Sl.of_block (rest := []) (S := (fun k => w.heap.size ≤ k ∧ k < (allocs w (objObjs w.heap.size)).heap.size)) (k := 7) (bytes := 88) (R := InstIs) (xs := [instM 1 7, instM 36 0]) h2 ⟨by omega, by omega⟩ [instCells 1 7, instCells 36 0] rfl (by simp [instCells]) rfl ?_ rfl (Nat.le_refl 2) (by decide)
    intro j hj
    match j, hj with
    | 0, _ => exact instIs _ _ (fits_small (by decide)) (fits_small (by decide))
    | 1, _ => exact instIs _ _ (fits_small (by decide)) (fits_small (by decide))
  | 2, _ =>
    refine methIs ⟨#[107, 105, 110]⟩ ⟨#[40, 41, 76, 79, 98, 106, 101, 99, 116, 59]⟩ 4 1 1 (w.heap.size + 1 + 1 + 1) 2 [instM 4 0, instM 37 0] (by decide) (by decide) (by decide) (by decide) (by decide) ?_
    refine Sl.of_block (rest := []) (S := (fun k => w.heap.size ≤ k ∧ k < (allocs w (objObjs w.heap.size)).heap.size)) (k := 7) (bytes := 88) (R := InstIs) (xs := [instM 4 0, instM 37 0]) h3 ⟨by omega, by omega⟩ [instCells 4 0, instCells 37 0] rfl (by simp [instCells]) rfl ?_ rfl (Nat.le_refl 2) (by decide)
    intro j hj
    match j, hj with
    | 0, _ => exact instIs _ _ (fits_small (by decide)) (fits_small (by decide))
    | 1, _ => exact instIs _ _ (fits_small (by decide)) (fits_small (by decide))
end Go.Proofs.YtipinmbpdgjalaaGreatDoor.Hi
