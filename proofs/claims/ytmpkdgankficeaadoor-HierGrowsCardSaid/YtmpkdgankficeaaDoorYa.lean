/- Worlds built out of a list of classes, in a law's walk. -/
import Derived.Test.YtmpkdgankficeaaDoorXb
set_option maxRecDepth 100000
set_option maxHeartbeats 1000000
set_option linter.unusedVariables false
set_option linter.unusedSimpArgs false
namespace Go.Proofs.YtmpkdgankficeaaDoor.Hi
open Go.RowKit Bs

/-- The world behind classes that arrive. -/
def defs (l : List ClsM) : List EntM := l.foldl defM startM

theorem defs_snoc (l : List ClsM) (c : ClsM) : defs (l ++ [c]) = defM (defs l) c := by unfold defs; rw [List.foldl_append]; rfl

/-- A world of classes, built from block B on, bw being its own; behind world w. -/
structure Built (B bw : Nat) (w wr : World) (m : List EntM) : Prop where
  hw : HW (fun b => B ≤ b ∧ b < wr.heap.size) bw wr m
  ord : OrdM m
  below : Below w.heap.size w wr
  le : w.heap.size ≤ B ∧ B ≤ wr.heap.size

theorem Built.wf {B bw : Nat} {w wr : World} {m : List EntM} (h : Built B bw w wr m) : WFm m := h.hw.wf
theorem Built.live {B bw : Nat} {w wr : World} {m : List EntM} (h : Built B bw w wr m) : ∀ k, (B ≤ k ∧ k < wr.heap.size) → k < wr.heap.size := fun _ hk => hk.2

theorem Built.next {B bw : Nat} {w wr w' : World} {m : List EntM} (h : Built B bw w wr m) (hb : Below wr.heap.size wr w') : Built B bw w w' m where
  hw := (h.hw.alike hb.size (Alike.of_below hb h.live)).mono fun k hk => ⟨hk.1, Nat.lt_of_lt_of_le hk.2 hb.size⟩
  ord := h.ord
  below := h.below.trans (hb.mono h.below.size)
  le := ⟨h.le.1, Nat.le_trans h.le.2 hb.size⟩

theorem defM_ord {m : List EntM} (hw : WFm m) (h : OrdM m) (c : ClsM) : OrdM (defM m c) := by
  unfold defM
  split
  · exact h.step hw (by assumption)
  · exact h

theorem Built.define {B bw : Nat} {w wr w' : World} {m : List EntM} (h : Built B bw w wr m) (c : ClsM) (hw' : HW (fun k => (B ≤ k ∧ k < wr.heap.size) ∨ (wr.heap.size ≤ k ∧ k < w'.heap.size)) bw w' (defM m c)) (hc : Chg (fun k => B ≤ k ∧ k < wr.heap.size) wr w') :
    Built B bw w w' (defM m c) where
  hw := hw'.mono fun k hk => by
    have := hc.size
    have := h.le
    rcases hk with hk | hk
    · exact ⟨hk.1, by omega⟩
    · exact ⟨by omega, hk.2⟩
  ord := defM_ord h.wf h.ord c
  below := h.below.trans (hc.below (by have := h.le; omega) fun k hk hf => by have := h.le; omega)
  le := ⟨h.le.1, Nat.le_trans h.le.2 hc.size⟩

/-- An element of a slice of classes, as a walk wants it. -/
theorem cls_elem {S : Nat → Prop} {w wr : World} {a : Option Addr} {c : Nat} {xs : List ClsM} (hx : ClsSl S w (.slice a xs.length c) xs) (hS : ∀ k, S k → k < w.heap.size) (hb : Below w.heap.size w wr) {k : Nat} (hk : k < xs.length) :
    ∃ b o v2 v5, a = some ⟨b, o, none⟩ ∧ wr.cell? ⟨b, o + k * 6, none⟩ = some (.string xs[k].name) ∧ wr.cell? ⟨b, o + k * 6 + 1, none⟩ = some (.string xs[k].super) ∧ wr.cell? ⟨b, o + k * 6 + 2, none⟩ = some v2 ∧ wr.cell? ⟨b, o + k * 6 + 3, none⟩ = some (.int .i64 xs[k].flags) ∧ wr.cell? ⟨b, o + k * 6 + 4, none⟩ = some (.int .i64 xs[k].loader) ∧ wr.cell? ⟨b, o + k * 6 + 5, none⟩ = some v5 ∧
      ClsIs S wr [.string xs[k].name, .string xs[k].super, v2, .int .i64 xs[k].flags, .int .i64 xs[k].loader, v5] xs[k] ∧ (∃ ia ic, v2 = .slice ia xs[k].ifaces.length ic) ∧ (∃ ma mc, v5 = .slice ma xs[k].meths.length mc) := by
  obtain ⟨a', c', hf, hle, hby, hcells⟩ := hx
  injection hf with hf1 hf2 hf3
  subst hf1; subst hf3
  rcases hcells with hnil | ⟨b, o, rfl, hSb, hcell⟩
  · rw [hnil] at hk; simp at hk
  obtain ⟨cs, hcl, hcs, hR⟩ := hcell k hk
  have hR' := hR
  obtain ⟨iv, mv, rfl, q1, q2, q3, q4, q5, q6⟩ := hR'
  have hbs := hS b hSb
  have cel : ∀ {j : Nat} {v : Value}, w.cell? ⟨b, j, none⟩ = some v → wr.cell? ⟨b, j, none⟩ = some v := fun hv => (World.cell?_of_block (w := w) (hb.block b hbs)).trans hv
  have g0 := cel (hcs 0 (by simp))
  have g1 := cel (hcs 1 (by simp))
  have g2 := cel (hcs 2 (by simp))
  have g3 := cel (hcs 3 (by simp))
  have g4 := cel (hcs 4 (by simp))
  have g5 := cel (hcs 5 (by simp))
  simp only [List.getElem_cons_zero, List.getElem_cons_succ, Nat.add_zero] at g0 g1 g2 g3 g4 g5
  obtain ⟨ia, ic, e1, _⟩ := q3
  obtain ⟨ma, mc, e2, _⟩ := q6
  exact ⟨b, o, iv, mv, rfl, g0, g1, g2, g3, g4, g5, hR.alike (Alike.of_below hb hS), ⟨ia, ic, e1⟩, ⟨ma, mc, e2⟩⟩

section
variable {B bw : Nat} {w wr : World} {m : List EntM}
theorem Built.extends (h : Built B bw w wr m) (a b : Int) : Calls Tryd.prog 16 #[.pointer (some ⟨bw, 0, none⟩), .int .i64 a, .int .i64 b] wr fun r w' => r = .returned (.bool (extM m a b)) ∧ Below wr.heap.size wr w' := Extends h.hw h.live a b
theorem Built.chain (h : Built B bw w wr m) (a : Nat) (ha : a < m.length) : Calls Tryd.prog 19 #[.pointer (some ⟨bw, 0, none⟩), .int .i64 a] wr fun r w' => ∃ ad c, r = .returned (.tuple #[.slice ad (ch m a).length c, .int .i64 0]) ∧ IntSl (fun b => b < w'.heap.size) w' (.slice ad (ch m a).length c) (ch m a) ∧ Below wr.heap.size wr w' :=
  (Chain h.hw h.live a).mono fun r w' ⟨ad, c, h1, h2, h3⟩ => ⟨ad, c, by rw [h1]; unfold chainM; rw [entAt_nat ha]; unfold ch chainM; rw [entAt_nat ha], h2.mono fun b hb => hb.2, h3⟩
theorem Built.closure (h : Built B bw w wr m) (a : Nat) (ha : a < m.length) : Calls Tryd.prog 13 #[.pointer (some ⟨bw, 0, none⟩), .int .i64 a] wr fun r w' => ∃ ad c, r = .returned (.tuple #[.slice ad (clo m a).length c, .int .i64 0]) ∧ IntSl (fun b => b < w'.heap.size) w' (.slice ad (clo m a).length c) (clo m a) ∧ Below wr.heap.size wr w' :=
  (Closure h.hw a).mono fun r w' ⟨ad, c, h1, h2, h3⟩ => ⟨ad, c, by rw [h1]; unfold closureM; rw [entAt_nat ha]; unfold clo closureM; rw [entAt_nat ha], h2.mono fun b hb => hb.2, h3⟩
theorem Built.depth (h : Built B bw w wr m) (a : Nat) (ha : a < m.length) : Calls Tryd.prog 22 #[.pointer (some ⟨bw, 0, none⟩), .int .i64 a] wr fun r w' => r = .returned (.tuple #[.int .i64 m[a].depth, .int .i64 0]) ∧ wr = w' :=
  (Depth h.hw a).mono fun r w' ⟨h1, h2⟩ => ⟨by rw [h1]; unfold depthM; rw [entAt_nat ha], h2⟩
theorem Built.isIface (h : Built B bw w wr m) (a : Int) : Calls Tryd.prog 23 #[.pointer (some ⟨bw, 0, none⟩), .int .i64 a] wr fun r w' => r = .returned (.bool (isIfaceM m a)) ∧ Below wr.heap.size wr w' := IsIface h.hw a
theorem Built.super (h : Built B bw w wr m) (a : Int) : Calls Tryd.prog 14 #[.pointer (some ⟨bw, 0, none⟩), .int .i64 a] wr fun r w' => r = .returned (.tuple #[.int .i64 (superM m a).1, .int .i64 (superM m a).2]) ∧ wr = w' := Super h.hw a
end

/-- A slice of numbers stays as it is. -/
theorem IntSl.next {w w' : World} {v : Value} {xs : List Int} (h : IntSl (fun b => b < w.heap.size) w v xs) (hb : Below w.heap.size w w') : IntSl (fun b => b < w'.heap.size) w' v xs :=
  (h.alike (Alike.of_below hb fun _ h => h)).mono fun _ hk => Nat.lt_of_lt_of_le hk hb.size
/-- An element of a slice of numbers. -/
theorem IntSl.elem {S : Nat → Prop} {w : World} {a : Option Addr} {c : Nat} {xs : List Int} (h : IntSl S w (.slice a xs.length c) xs) (h0 : 0 < xs.length) : ∃ b o, a = some ⟨b, o, none⟩ ∧ ∀ i x, xs[i]? = some x → w.cell? ⟨b, o + i, none⟩ = some (.int .i64 x) := by
  obtain ⟨a', c', hf, h2, h3, h4⟩ := h.cells
  injection hf with f1 f2 f3
  subst f1; subst f3
  rcases h4 with rfl | ⟨b, o, rfl, _, h4⟩
  · simp at h0
  · refine ⟨b, o, rfl, fun i x hx => ?_⟩
    obtain ⟨hi, rfl⟩ := List.getElem?_eq_some_iff.1 hx
    exact (h4 i hi).1
end Go.Proofs.YtmpkdgankficeaaDoor.Hi
