/- Words on memory: which blocks may turn; what a slice in memory stands for. No program in sight. -/
import Derived.Below
import Derived.WalkKit
import Derived.Laws.NewBlocks
import Derived.Deep.QuietTactic
set_option linter.unusedVariables false
set_option linter.unusedSimpArgs false
namespace Go.Proofs.YtmpkdgankficeaaDoor.Bs
open Go.RowKit

/-- Of what was there only blocks of F turn. -/
structure Chg (F : Nat → Prop) (w w' : World) : Prop where
  os : w'.os = w.os
  tape : w'.tape = w.tape
  output : w'.output = w.output
  size : w.heap.size ≤ w'.heap.size
  block : ∀ k, k < w.heap.size → ¬ F k → w'.heap[k]? = w.heap[k]?

variable {F G : Nat → Prop} {w w' w'' : World}

theorem Chg.refl (F : Nat → Prop) (w : World) : Chg F w w := ⟨rfl, rfl, rfl, Nat.le_refl _, fun _ _ _ => rfl⟩
theorem Chg.mono (h : Chg F w w') (hF : ∀ k, k < w.heap.size → F k → G k) : Chg G w w' := ⟨h.os, h.tape, h.output, h.size, fun k hk hg => h.block k hk fun hf => hg (hF k hk hf)⟩
/-- Two steps; what the second may turn among what is new is nobody's. -/
theorem Chg.trans (h : Chg F w w') (h' : Chg G w' w'') (hG : ∀ k, k < w.heap.size → G k → F k) : Chg F w w'' :=
  ⟨h'.os.trans h.os, h'.tape.trans h.tape, h'.output.trans h.output, Nat.le_trans h.size h'.size, fun k hk hf => (h'.block k (Nat.lt_of_lt_of_le hk h.size) fun hg => hf (hG k hk hg)).trans (h.block k hk hf)⟩
theorem Chg.of_below (h : Below w.heap.size w w') : Chg F w w' := ⟨h.os, h.tape, h.output, h.size, fun k hk _ => h.block k hk⟩
theorem Chg.below {B : Nat} (h : Chg F w w') (hB : B ≤ w.heap.size) (hF : ∀ k, k < B → ¬ F k) : Below B w w' := ⟨h.os, h.tape, h.output, h.size, fun k hk => h.block k (Nat.lt_of_lt_of_le hk hB) (hF k hk)⟩
theorem Chg.alloc (h : Chg F w w') (o : Obj) : Chg F w (w'.alloc o) :=
  ⟨h.os, h.tape, h.output, by have := h.size; simp; omega, fun k hk hf => (Below.heap_alloc w' o k (Nat.lt_of_lt_of_le hk h.size)).trans (h.block k hk hf)⟩
theorem Chg.setCell (h : Chg F w w') {a : Addr} (ha : w.heap.size ≤ a.block ∨ F a.block) (v : Value) : Chg F w (w'.setCell a v) :=
  ⟨h.os, h.tape, h.output, by simpa using h.size, fun k hk hf => (Below.heap_setCell w' a v k (fun e => by subst e; exact ha.elim (fun h => absurd hk (by omega)) (fun h => hf h))).trans (h.block k hk hf)⟩
theorem Chg.drew (h : Chg F w w') : Chg F w w'.drew := ⟨h.os, h.tape, h.output, h.size, h.block⟩
theorem Chg.drewN (h : Chg F w w') (n : Nat) : Chg F w (w'.drewN n) := ⟨h.os, h.tape, h.output, h.size, h.block⟩
theorem Chg.grown {row : Option Nat} (h : Chg F w w') (hg : w'.grownBy w'' row) (hr : ∀ k, row = some k → w.heap.size ≤ k ∨ F k) : Chg F w w'' :=
  ⟨hg.os.trans h.os, hg.tape.trans h.tape, hg.output.trans h.output, Nat.le_trans h.size hg.size, fun k hk hf => (hg.block k (Nat.lt_of_lt_of_le hk h.size) (fun e => (hr k e.symm).elim (fun h => absurd hk (by omega)) (fun h => hf h))).trans (h.block k hk hf)⟩
theorem Chg.cell (h : Chg F w w') {a : Addr} (ha : a.block < w.heap.size) (hf : ¬ F a.block) : w'.cell? a = w.cell? a := World.cell?_of_block (h.block a.block ha hf)
theorem Chg.cell_eq {v : Value} (h : Chg F w w') {a : Addr} (hv : w.cell? a = some v) (hf : ¬ F a.block) : w'.cell? a = some v := (h.cell (World.block_lt_of_cell? w _ hv) hf).trans hv
theorem Chg.frozen (h : Chg F w w') {a : Addr} (ha : a.block < w.heap.size) (hf : ¬ F a.block) : w'.frozen? a = w.frozen? a := World.frozen?_of_block (h.block a.block ha hf)

theorem below_cell {v : Value} {B : Nat} (h : Below B w w') {a : Addr} (hv : w.cell? a = some v) (ha : a.block < B) : w'.cell? a = some v := (h.cell (p := a) ha).trans hv
theorem below_cell' {v : Value} (h : Below w.heap.size w w') {a : Addr} (hv : w.cell? a = some v) : w'.cell? a = some v := below_cell h hv (World.block_lt_of_cell? w _ hv)

theorem setCell_same {b o : Nat} {v u : Value} (h : w.cell? ⟨b, o, none⟩ = some u) : (w.setCell ⟨b, o, none⟩ v).cell? ⟨b, o, none⟩ = some v := World.cell?_setCell_same _ _ _ h
theorem setCell_off {b o b' o' : Nat} {v : Value} (h : b ≠ b' ∨ o ≠ o') : (w.setCell ⟨b, o, none⟩ v).cell? ⟨b', o', none⟩ = w.cell? ⟨b', o', none⟩ :=
  World.cell?_setCell_other _ _ _ _ (by intro e; injection e with e1 e2; exact h.elim (fun h => h e1) (fun h => h e2))
theorem alloc_old {b o : Nat} {v : Value} {x : Obj} (h : w.cell? ⟨b, o, none⟩ = some v) : (w.alloc x).cell? ⟨b, o, none⟩ = some v := by
  rw [World.cell?_alloc_lt _ _ _ (World.block_lt_of_cell? w _ h)]; exact h

/-- Is it the same text? -/
theorem str_eq (a b : ByteArray) : (a.toList == b.toList) = decide (a = b) := by
  rw [ByteArray.toList_eq, ByteArray.toList_eq, Bool.eq_iff_iff, beq_iff_eq, decide_eq_true_iff]
  constructor
  · intro h
    cases a; cases b
    exact congrArg ByteArray.mk (Array.toList_inj.mp h)
  · rintro rfl; rfl
theorem str_ext {a b : ByteArray} (h : a.data.toList = b.data.toList) : a = b := by
  cases a; cases b
  exact congrArg ByteArray.mk (Array.toList_inj.mp h)
theorem extract_rest (s : ByteArray) (c : UInt8) (r : List UInt8) (h : s.data.toList = c :: r) : (s.extract 1 s.size).data.toList = r := by
  have h1 : (s.extract 1 s.size).data.toList = (s.data.toList.drop 1) := by
    rw [ByteArray.data_extract, Array.toList_extract]
    simp [List.extract_eq_take_drop]
    exact List.take_of_length_le (by simp)
  rw [h1, h]
  rfl
end Go.Proofs.YtmpkdgankficeaaDoor.Bs
