/- A class, a method, a place in a class: what later texts ask of a world. -/
import Derived.Test.YtipinmbpdgjalaaGreatDoorMK
set_option maxRecDepth 100000
set_option maxHeartbeats 1000000
set_option linter.unusedVariables false
set_option linter.unusedSimpArgs false
namespace Go.Proofs.YtipinmbpdgjalaaGreatDoor.Hi
open Go.RowKit Bs

theorem findH_at {m : List EntM} {c : Nat} (hc : c < m.length) (n d : ByteArray) : findH m (c : Int) n d = findE m[c] n d := by
  unfold findH
  rw [entAt_nat hc]
  rfl
theorem Built.find {B bw : Nat} {w0 w : World} {m : List EntM} (h : Built B bw w0 w m) {c : Nat} (hc : c < m.length) (n d : ByteArray) :
    Calls Tryz.prog 29 #[.pointer (some ⟨bw, 0, none⟩), .int .i64 c, .string n, .string d] w fun r w' => r = .returned (.tuple #[.int .i64 (findH m c n d).1, .int .i64 (findH m c n d).2]) ∧ Below w.heap.size w w' := by
  rw [findH_at hc]
  exact Find_in h.hw h.live (entAt_nat hc) n d

theorem Class2 {B bw : Nat} {w0 w : World} {m : List EntM} (h : Built B bw w0 w m) {i : Nat} (hi : i < m.length) :
    Calls Tryz.prog 20 #[.pointer (some ⟨bw, 0, none⟩), .int .i64 i] w fun r w' => ∃ (v0 v1 : ByteArray) (ia ma : Option Addr) (il ic ml mc : Nat) (f l : Int), r = .returned (.tuple #[.agg #[.string v0, .string v1, .slice ia il ic, .int .i64 f, .int .i64 l, .slice ma ml mc], .int .i64 0]) ∧ Below w.heap.size w w' :=
  (Class_in h.hw h.live (entAt_nat hi)).mono fun r w' ⟨cs', h1, h2, h3⟩ => by
    obtain ⟨iv, mv, rfl, _⟩ := id h2
    obtain ⟨ia, ic, rfl, _⟩ := (ClsIs.shape h2).1
    obtain ⟨ma, mc, rfl, _⟩ := (ClsIs.shape h2).2
    exact ⟨_, _, _, _, _, _, _, _, _, _, h1, h3⟩

theorem Method2 {B bw : Nat} {w0 w : World} {m : List EntM} (h : Built B bw w0 w m) {i b : Nat} (hi : i < m.length) (hb : b < m[i].c.meths.length) :
    Calls Tryz.prog 28 #[.pointer (some ⟨bw, 0, none⟩), .agg #[.int .i64 i, .int .i64 b]] w fun r w' => ∃ (ad : Option Addr) (q c : Nat), r = .returned (.tuple #[.agg #[.string m[i].c.meths[b].name, .string m[i].c.meths[b].desc, .int .i64 m[i].c.meths[b].flags, .int .i64 m[i].c.meths[b].locals, .int .i64 m[i].c.meths[b].stack, .slice ad q c], .int .i64 0]) ∧ Below w.heap.size w w' :=
  (Method_in h.hw h.live (entAt_nat hi) hb).mono fun r w' ⟨cs', h1, h2, h3⟩ => by
    obtain ⟨cv, rfl, _, _, _, _, _, hi⟩ := h2
    obtain ⟨ad, c, rfl, _⟩ := hi
    exact ⟨_, _, _, h1, h3⟩

theorem findH_ok {m : List EntM} {c : Nat} (hc : c < m.length) {n d : ByteArray} (h : (findH m (c : Int) n d).2 = 0) : ∃ (b : Nat) (hb : b < m[c].c.meths.length), (findH m (c : Int) n d).1 = (b : Int) ∧ Pr.mEq n d m[c].c.meths[b] = true := by
  rw [findH_at hc] at *
  unfold findE Pr.findM at *
  cases hf : m[c].c.meths.findIdx? (Pr.mEq n d) with
  | none =>
    rw [hf] at h
    exact absurd h (by decide)
  | some i =>
    obtain ⟨h1, h2, _⟩ := List.findIdx?_eq_some_iff_getElem.1 hf
    refine ⟨i, h1, ?_, h2⟩
    show (if ((i : Nat) : Int) < 0 then (0, 6) else (((i : Nat) : Int), (0 : Int))).1 = _
    rw [if_neg (by omega)]
/-- The place of an id that is the answer. -/
structure IdAt (w w1 : World) : Prop where
  s0 : w1.cell? ⟨w.heap.size, 0, none⟩ = some (.int .i64 0)
  s1 : w1.cell? ⟨w.heap.size, 1, none⟩ = some (.int .i64 0)
  t : ∀ j, w1.frozen? ⟨w.heap.size, j, none⟩ = false
  bel : Below w.heap.size w w1
  lt : w.heap.size < w1.heap.size
theorem IdAt.start (w : World) : IdAt w (w.alloc (.cells #[.int .i64 0, .int .i64 0] 38)) :=
  ⟨World.cell?_alloc_new .., World.cell?_alloc_new .., fun j => frozen_new .., (Below.refl _ _).alloc (Nat.le_refl _) _, by simp⟩
theorem IdAt.next {w w1 w2 : World} (h : IdAt w w1) (hb : Below w1.heap.size w1 w2) : IdAt w w2 :=
  ⟨below_cell' hb h.s0, below_cell' hb h.s1, fun j => (World.frozen?_of_block (w := w1) (a := ⟨w.heap.size, j, none⟩) (hb.block _ h.lt)).trans (h.t j), h.bel.trans (hb.mono h.bel.size), Nat.lt_of_lt_of_le h.lt hb.size⟩
theorem IdAt.two {w w1 : World} (h : IdAt w w1) (v0 v1 : Value) : ∀ j (hj : j < [v0, v1].length), ((w1.setCell ⟨w.heap.size, 0, none⟩ v0).setCell ⟨w.heap.size, 1, none⟩ v1).cell? ⟨w.heap.size, j, none⟩ = some [v0, v1][j] := by
  have key := set2 (v0 := v0) (v1 := v1) h.s0 h.s1
  exact Hi.two key.1 key.2
theorem IdAt.end {w w1 : World} (h : IdAt w w1) (v0 v1 : Value) : Below w.heap.size w ((w1.setCell ⟨w.heap.size, 0, none⟩ v0).setCell ⟨w.heap.size, 1, none⟩ v1) :=
  (h.bel.setCell (Nat.le_refl _) _).setCell (Nat.le_refl _) _
end Go.Proofs.YtipinmbpdgjalaaGreatDoor.Hi
