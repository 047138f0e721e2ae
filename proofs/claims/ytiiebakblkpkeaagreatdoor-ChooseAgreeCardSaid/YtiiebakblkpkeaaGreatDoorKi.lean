/- Ids in memory, cell by cell. -/
import Derived.Test.YtiiebakblkpkeaaGreatDoorMK
import Derived.Lib.SliceRun
set_option maxRecDepth 100000
set_option maxHeartbeats 1000000
set_option linter.unusedVariables false
set_option linter.unusedSimpArgs false
namespace Go.Proofs.YtiiebakblkpkeaaGreatDoor.Hi
open Go.RowKit Bs

/-- What stands in a row. -/
def Ids2 (w : World) (b : Nat) (xs : List (Int × Int)) : Prop := ∀ i (h : i < xs.length), w.cell? ⟨b, i * 2, none⟩ = some (.int .i64 xs[i].1) ∧ w.cell? ⟨b, i * 2 + 1, none⟩ = some (.int .i64 xs[i].2)
theorem Ids2.set {w : World} {b : Nat} {xs : List (Int × Int)} (h : Ids2 w b xs) {i : Nat} (hi : i < xs.length) (p : Int × Int) : Ids2 ((w.setCell ⟨b, i * 2, none⟩ (.int .i64 p.1)).setCell ⟨b, i * 2 + 1, none⟩ (.int .i64 p.2)) b (xs.set i p) := by
  intro j hj
  rw [List.length_set] at hj
  by_cases e : i = j
  · subst e
    simp only [List.getElem_set_self]
    refine ⟨?_, ?_⟩
    · rw [setCell_off (by omega)]
      exact setCell_same (h i hi).1
    · refine setCell_same (u := .int .i64 xs[i].2) ?_
      rw [setCell_off (by omega)]
      exact (h i hi).2
  · simp only [List.getElem_set_ne e]
    refine ⟨?_, ?_⟩
    · rw [setCell_off (by omega), setCell_off (by omega)]; exact (h j hj).1
    · rw [setCell_off (by omega), setCell_off (by omega)]; exact (h j hj).2
theorem Ids2.below {w w' : World} {B b : Nat} {xs : List (Int × Int)} (h : Ids2 w b xs) (hb : Below B w w') (hB : b < B) : Ids2 w' b xs := fun i hi =>
  ⟨(World.cell?_of_block (a := ⟨b, i * 2, none⟩) (hb.block b hB)).trans (h i hi).1, (World.cell?_of_block (a := ⟨b, i * 2 + 1, none⟩) (hb.block b hB)).trans (h i hi).2⟩
theorem Ids2.sl {w : World} {b cap : Nat} {xs : List (Int × Int)} (h : Ids2 w b xs) (hc : xs.length ≤ cap) (hl : xs.length ≤ 301) (hb : b < w.heap.size) : IdSl (fun b => b < w.heap.size) w (.slice (some ⟨b, 0, none⟩) xs.length cap) xs := by
  refine ⟨some ⟨b, 0, none⟩, cap, rfl, hc, by omega, .inr ⟨b, 0, rfl, hb, fun i hi => ⟨[.int .i64 xs[i].1, .int .i64 xs[i].2], rfl, fun j hj => ?_, rfl⟩⟩⟩
  have := h i hi
  rw [Nat.zero_add]
  match j, hj with
  | 0, _ => exact this.1
  | 1, _ => exact this.2

theorem clear_ids (w : World) (ty : TypeId) (b o cnt c : Nat) (hn : 0 < cnt) (hc : ∀ j, j < cnt * 2 → (w.cell? ⟨b, o + j, none⟩).isSome = true) (hf : ∀ j, w.frozen? ⟨b, j, none⟩ = false) :
    (Builtin.clear_ #[94] ty #[.slice (some ⟨b, o, none⟩) cnt c]).run Tryz.prog w = .ok (.tuple #[]) (w.setCells b o (List.replicate (cnt * 2) (.int .i64 0))) := by
  have hv : ∀ w : World, (zeroValue 24).run Tryz.prog w = .ok (.agg #[.int .i64 0, .int .i64 0]) w := by
    obtain ⟨i0, hi0, hiz0, _⟩ := info_parts info_id
    intro w
    simp [zeroValue, typeInfo, hi0, hiz0]
  have hzc : (Builtin.zeroCells #[.int .i64 0, .int .i64 0] cnt).toList = List.replicate (cnt * 2) (.int .i64 0) := by
    simp only [Builtin.zeroCells]
    apply List.ext_getElem
    · simp
    · intro i h1 h2
      have : i % 2 = 0 ∨ i % 2 = 1 := by omega
      rcases this with e | e <;> simp [e]
  have hst := run_storeCells_cells (P := Tryz.prog) b o (List.replicate (cnt * 2) (.int .i64 0)) 0 w (by simpa using hc) (by intro j _; exact hf _) (by intro v hv'; rw [List.eq_of_mem_replicate hv']; rfl)
  simp only [Nat.add_zero] at hst
  obtain ⟨m, rfl⟩ : ∃ m, cnt = m + 1 := ⟨cnt - 1, by omega⟩
  have hcs : (Value.agg #[.int .i64 0, .int .i64 0]).cells = #[.int .i64 0, .int .i64 0] := rfl
  simp [Builtin.clear_, run_underlying Tryz.underlying94, hv, hcs, hzc, hst]
theorem clear_ids0 (w : World) (ty : TypeId) (a : Option Addr) (c : Nat) : (Builtin.clear_ #[94] ty #[.slice a 0 c]).run Tryz.prog w = .ok (.tuple #[]) w := by
  cases a <;> simp [Builtin.clear_, run_underlying Tryz.underlying94]

theorem flat2 : ∀ (L : List (Int × Int)) (i : Nat) (h : i < L.length), (L.map idCells).flatten[i * 2]? = some (.int .i64 L[i].1) ∧ (L.map idCells).flatten[i * 2 + 1]? = some (.int .i64 L[i].2)
  | [], _, h => by simp at h
  | p :: r, 0, _ => by simp [idCells]
  | p :: r, i + 1, h => by
    have := flat2 r i (by simpa using h)
    have e : ∀ j, ((p :: r).map idCells).flatten[(i + 1) * 2 + j]? = (r.map idCells).flatten[i * 2 + j]? := fun j => by
      rw [List.map_cons, List.flatten_cons, List.getElem?_append_right (by simp [idCells]; omega)]
      congr 1
      simp [idCells]; omega
    exact ⟨(e 0).trans this.1, (e 1).trans this.2⟩
/-- A row of one's own, as cells. -/
theorem ids2_of_own {w : World} {B b k : Nat} {L : List (Int × Int)} (h : w.ownsRow B 24 2 (.slice (some ⟨b, 0, none⟩) L.length k) L.length (L.map idCells).flatten) : Ids2 w b L ∧ (∀ j, w.frozen? ⟨b, j, none⟩ = false) ∧ L.length ≤ k := by
  obtain ⟨h1, h2, h3⟩ := own_at h
  exact ⟨fun i hi => ⟨h2 _ _ (flat2 L i hi).1, h2 _ _ (flat2 L i hi).2⟩, h3, h1⟩

theorem below_cells {B b : Nat} {a : World} (hb : B ≤ b) : ∀ (vs : List Value) (o : Nat) (w : World), Below B a w → Below B a (w.setCells b o vs)
  | [], _, _, h => h
  | v :: r, o, w, h => below_cells hb r (o + 1) _ (h.setCell hb v)
theorem size_cells {b : Nat} : ∀ (vs : List Value) (o : Nat) (w : World), (w.setCells b o vs).heap.size = w.heap.size
  | [], _, _ => rfl
  | v :: r, o, w => (size_cells r (o + 1) _).trans (by simp)
end Go.Proofs.YtiiebakblkpkeaaGreatDoor.Hi
