/- The closure of put: a number joins the closure, if it isn't there. -/
import Derived.Test.YtmpkdgankficeaaDoorMd
import Derived.Lib.Hide
import Derived.OwnWalk
import Derived.Outline
import Derived.Deep.DeepMust
import Derived.KernelRfl
import Derived.Test.YtmpkdgankficeaaDoorShelf
set_option maxRecDepth 100000
set_option linter.unusedVariables false
set_option linter.unusedSimpArgs false
namespace Go.Proofs.YtmpkdgankficeaaDoor.Hi
open Go.RowKit Bs

theorem info_int : (Tryd.prog.info? 3).map (fun i => (i.zero, i.size, i.bytes)) = some (some (.int .i64 0), 1, 8) := by kernel_rfl

/-- A row of the call's own, as contracts want a slice of numbers. -/
theorem own_ints {w : World} {B : Nat} {E : TypeId} {v : Value} {n : Nat} {xs : List Int} (h : w.ownsRow B E 1 v n (xs.map (Value.int .i64))) :
    n = xs.length ∧ ((v = .slice none 0 0 ∧ xs = []) ∨ ∃ g cap, v = .slice (some ⟨g, 0, none⟩) n cap ∧ B ≤ g ∧ g < w.heap.size ∧ n ≤ cap ∧ ∀ i (h : i < xs.length), w.cell? ⟨g, i, none⟩ = some (.int .i64 xs[i])) := by
  obtain ⟨h1, h2⟩ := h
  have hn : n = xs.length := by simpa using h1.symm
  refine ⟨hn, ?_⟩
  rcases h2 with ⟨rfl, h2⟩ | ⟨g, cap, cur, rfl, hg, hh, hc, _, hcur, htake⟩
  · exact .inl ⟨rfl, List.eq_nil_of_length_eq_zero (by omega)⟩
  · refine .inr ⟨g, cap, rfl, hg, ?_, hc, fun i hi => ?_⟩
    · exact (Array.getElem?_eq_some_iff.1 hh).1
    · have e : cur.toList[i]? = some (.int .i64 xs[i]) := by
        have : (cur.toList.take (n * 1))[i]? = some (.int .i64 xs[i]) := by rw [htake]; simp [hi]
        rw [List.getElem?_take] at this
        rwa [if_pos (by omega)] at this
      simp only [World.cell?, hh]
      simpa using e

/-- slices.Contains at a row of the call's own. -/
theorem contains_own {w : World} {B : Nat} {E : TypeId} {v : Value} {n : Nat} {xs : List Int} (x : Int) (h : w.ownsRow B E 1 v n (xs.map (Value.int .i64))) (hn : n ≤ 9223372036854775807) :
    Calls Tryd.prog 41 #[v, .int .i64 x] w fun e w' => e = .returned (.bool (xs.contains x)) ∧ w' = w := by
  obtain ⟨rfl, ⟨rfl, rfl⟩ | ⟨g, cap, rfl, _, _, _, hc⟩⟩ := own_ints h
  · exact Tryd.slices_Contains_int_empty none 0 x w
  · refine (Tryd.slices_Contains_int g 0 xs.length cap xs x w (Nat.le_refl _) hn fun j hj => ?_).mono ?_
    · rw [Nat.zero_add, hc j hj]; simp [List.getD, hj]
    · rintro e w' ⟨rfl, rfl⟩
      exact ⟨by rw [List.take_length], rfl⟩

/-- Behind an append of one: the value is a slice with an address. -/
theorem own_form {w : World} {B : Nat} {E : TypeId} {v : Value} {n size : Nat} {xs : List Value} (h : w.ownsRow B E size v (n + 1) xs) : ∃ g cap, v = .slice (some ⟨g, 0, none⟩) (n + 1) cap := by
  obtain ⟨_, ⟨_, h2⟩ | ⟨g, cap, cur, rfl, _⟩⟩ := h
  · omega
  · exact ⟨g, cap, rfl⟩

/-- What lies below the row's base stays behind an append. -/
theorem grown_old {w w1 : World} {B : Nat} {E : TypeId} {v : Value} {n size : Nat} {xs : List Value} (h : w.ownsRow B E size v n xs) (hg : w.grownBy w1 v.ownBlock) {k : Nat} (hk : k < B) (hk' : k < w.heap.size) : w1.heap[k]? = w.heap[k]? :=
  hg.block k hk' fun e => by
    have := (h.lt k e.symm).1
    omega

/-- A list with a number more, if it isn't there. -/
def addNew (xs : List Int) (x : Int) : List Int := if xs.contains x then xs else xs ++ [x]

/-- What put$1 leaves. -/
def Put1 (b base : Nat) (ys : List Int) (w w' : World) : Prop :=
  ∃ v', w'.cell? ⟨b, 8, none⟩ = some v' ∧ w'.ownsRow base 3 1 v' ys.length (ys.map (Value.int .i64)) ∧
        (∀ j, j ≠ 8 → w'.cell? ⟨b, j, none⟩ = w.cell? ⟨b, j, none⟩) ∧ (∀ k, k < base → k ≠ b → w'.heap[k]? = w.heap[k]?) ∧ w.heap.size ≤ w'.heap.size ∧ w'.os = w.os ∧ w'.tape = w.tape ∧ w'.output = w.output ∧ (∀ j, w'.frozen? ⟨b, j, none⟩ = w.frozen? ⟨b, j, none⟩)

theorem put1_close {b base x : Nat} {t : TypeId} {n : Nat} {w w1 : World} {u v v1 : Value} {ys : List Int} {zs : List Value} (o : Obj)
    (hc : w.cell? ⟨b, 8, none⟩ = some u) (hown : w.ownsRow base 3 1 v n zs) (hbb : b < base) (hb : base ≤ w.heap.size)
    (hown1 : w1.ownsRow base 3 1 v1 ys.length (ys.map (Value.int .i64))) (hg : (w.alloc o).drew.grownBy w1 v.ownBlock) : Put1 b base ys w (w1.setCell ⟨b, 8, none⟩ v1) := by
  have hbs : b < w.heap.size := World.block_lt_of_cell? _ _ hc
  have old : ∀ k, k < base → w1.heap[k]? = w.heap[k]? := fun k hk =>
    (grown_old ((hown.alloc o).drew) hg hk (by simp; omega)).trans (Below.heap_alloc w o k (by omega))
  have h8 : w1.cell? ⟨b, 8, none⟩ = some u := (World.cell?_of_block (w := w) (a := ⟨b, 8, none⟩) (old b hbb)).trans hc
  refine ⟨v1, setCell_same h8, ownsRow_setCell_below hown1 hbb _, fun j hj => ?_, fun k hk hkb => ?_, ?_, hg.os, hg.tape, hg.output, fun j => ?_⟩
  · rw [setCell_off (by omega)]
    exact World.cell?_of_block (w := w) (a := ⟨b, j, none⟩) (old b hbb)
  · rw [Below.heap_setCell _ _ _ _ hkb]
    exact old k hk
  · have := hg.size
    simp at this ⊢
    omega
  · rw [World.frozen?_setCell]
    exact World.frozen?_of_block (w := w) (a := ⟨b, j, none⟩) (old b hbb)

/-- put$1: b: e's cells; q: the variable e. -/
theorem put1 (q b base : Nat) (x : Int) (v : Value) (xs : List Int) (w : World)
    (hq : w.cell? ⟨q, 0, none⟩ = some (.pointer (some ⟨b, 0, none⟩))) (hc : w.cell? ⟨b, 8, none⟩ = some v) (hf : w.frozen? ⟨b, 8, none⟩ = false)
    (hown : w.ownsRow base 3 1 v xs.length (xs.map (Value.int .i64))) (hl : xs.length ≤ 1000) (hb : base ≤ w.heap.size) (hbb : b < base) (hqb : q < base) :
    Calls Tryd.prog 53 #[.int .i64 x, .pointer (some ⟨q, 0, none⟩)] w fun e w' => e = .returned (.tuple #[]) ∧ Put1 b base (addNew xs x) w w' := by
  cases hx : xs.contains x
  · have F : Hid (addNew xs x = xs ++ [x]) := Lib.hid (by unfold addNew; rw [hx]; rfl)
    obtain ⟨i0, hi, hz0, hz1, hz2⟩ := info_parts info_int
    go_enter Tryd.func53, Tryd.ntmps53
    go_wp2_with fail
    refine (contains_own x hown (by omega)).mono ?_
    rintro e w' ⟨rfl, rfl⟩
    rw [hx]
    go_wp2_with fail
    have HX := Lib.hid hx
    clear hx
    have hqs : q < w'.heap.size := World.block_lt_of_cell? _ _ hq
    have hbs : b < w'.heap.size := World.block_lt_of_cell? _ _ hc
    have hnew : ∀ j u, ([.int .i64 x] : List Value)[j]? = some u → ((w'.alloc (Obj.cells #[Value.int IntKind.i64 x] 3)).drew).cell? ((⟨w'.heap.size, 0, none⟩ : Addr).add j) = some u := by
      intro j u hu
      cases j with
      | zero =>
        obtain rfl : Value.int IntKind.i64 x = u := by simpa using hu
        show (w'.alloc _).cell? ⟨w'.heap.size, 0, none⟩ = _
        rw [World.cell?_alloc_new]; rfl
      | succ j => simp at hu
    have HN := Lib.hid hnew
    clear hnew
    have key : ∀ (v1 : Value) (w1 : World), (w'.alloc (Obj.cells #[Value.int IntKind.i64 x] 3)).drew.grownBy w1 v.ownBlock → w1.cell? ⟨b, 8, none⟩ = some v ∧ w1.cell? ⟨q, 0, none⟩ = some (.pointer (some ⟨b, 0, none⟩)) ∧ w1.frozen? ⟨b, 8, none⟩ = false := by
      intro v1 w1 hg
      have h1 := grown_old ((hown.alloc (Obj.cells #[Value.int IntKind.i64 x] 3)).drew) hg hbb (by simp; omega)
      have h2 := grown_old ((hown.alloc (Obj.cells #[Value.int IntKind.i64 x] 3)).drew) hg hqb (by simp; omega)
      have e1 : w1.heap[b]? = w'.heap[b]? := h1.trans (Below.heap_alloc w' _ b hbs)
      have e2 : w1.heap[q]? = w'.heap[q]? := h2.trans (Below.heap_alloc w' _ q hqs)
      exact ⟨(World.cell?_of_block (w := w') (a := ⟨b, 8, none⟩) e1).trans hc, (World.cell?_of_block (w := w') (a := ⟨q, 0, none⟩) e2).trans hq, (World.frozen?_of_block (w := w') (a := ⟨b, 8, none⟩) e1).trans hf⟩
    have HK := Lib.hid key
    clear key
    go_region_law (refine step_append_own rfl (.tmp 14) (.tmp 16) 36 rfl base 3 i0 _ 1 8 Tryd.underlying36 hi hz0 hz1 hz2 rfl (by decide) v xs.length (xs.map (Value.int .i64)) (by simp [Act.eval, Act.put]) ((hown.alloc _).drew) ⟨w'.heap.size, 0, none⟩ 1 1 [.int .i64 x] (by simp [Act.eval, Act.put]) rfl HN.out (by simp [Value.oneCell']) (by unfold maxLen; omega) (by omega) (by simp; omega) ?_; intro v1 w1 hown1 hgrow1; obtain ⟨g, cap, hv⟩ := own_form hown1; obtain ⟨k1, k2, k3⟩ := HK.out v1 w1 hgrow1; rw [hv]; have HV := Lib.hid hv; clear hv)
    all_goals
      have fin := put1_close (x := 0) (t := 0) (ys := xs ++ [x]) _ hc hown hbb hb (by simpa using hown1) hgrow1
      rw [HV.out] at fin
      have FIN := Lib.hid fin
      clear fin
      go_end0
      exact ⟨rfl, by rw [F.out]; exact FIN.out⟩
  · have F : Hid (addNew xs x = xs) := Lib.hid (by unfold addNew; rw [hx]; rfl)
    go_enter Tryd.func53, Tryd.ntmps53
    go_wp2_with fail
    refine (contains_own x hown (by omega)).mono ?_
    rintro e w' ⟨rfl, rfl⟩
    rw [hx]
    go_wp2
    go_end0
    exact ⟨rfl, v, hc, by rw [F.out]; exact hown, fun _ _ => rfl, fun _ _ _ => rfl, Nat.le_refl _, rfl, rfl, rfl, fun _ => rfl⟩
end Go.Proofs.YtmpkdgankficeaaDoor.Hi
