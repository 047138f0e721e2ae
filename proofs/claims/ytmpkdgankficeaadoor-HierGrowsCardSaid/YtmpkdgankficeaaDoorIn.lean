/- What a nil world answers. -/
import Derived.Test.YtmpkdgankficeaaDoorIa
import Derived.WalkMore
import Derived.BigQuiet
import Derived.Laws.ResultCell
set_option maxRecDepth 100000
set_option maxHeartbeats 1000000
set_option linter.unusedVariables false
set_option linter.unusedSimpArgs false
namespace Go.Proofs.YtmpkdgankficeaaDoor.Hi
open Go.RowKit Bs

def aggD : TypeDesc → Bool
  | .struct _ => true
  | .array _ _ => true
  | _ => false

theorem run_loadVar_cells {P : Program} (w : World) (g : Nat) (ty : TypeId) (cs : List Value) (d : TypeDesc) (hg : ∀ j (h : j < cs.length), w.cell? ⟨g, j, none⟩ = some cs[j])
    (hu : P.underlying ty = some d) (hd : aggD d = true) (hi : (P.info? ty).map (·.size) = some cs.length) :
    (loadVar ty ⟨g, 0, none⟩).run P w = .ok (.agg cs.toArray) w := by
  have hl : (loadCells ⟨g, 0, none⟩ cs.length).run P w = .ok cs.toArray w :=
    run_loadCells_list (P := P) w ⟨g, 0, none⟩ cs (fun j v hv => by
      obtain ⟨h, rfl⟩ := List.getElem?_eq_some_iff.1 hv
      have hadd : (⟨g, 0, none⟩ : Addr).add j = ⟨g, j, none⟩ := by unfold Addr.add; split <;> simp_all
      rw [hadd]
      exact hg j h)
  cases hq : P.info? ty with
  | none => rw [hq] at hi; cases hi
  | some q =>
    rw [hq] at hi
    have hs : q.size = cs.length := by simpa using hi
    have hagg : (isAgg ty).run P w = .ok true w := by
      unfold isAgg
      rw [Sem.run_bind, run_underlying hu w]
      cases d <;> simp_all [aggD]
    simp [loadVar, Sem.run_bind, hagg, sizeOf, typeInfo, hq, hs, hl]

/-- A struct and an error come back. -/
theorem results_cells_tmp {P : Program} {fn : Func} {p u : Tmp} {ty : TypeId} (h : fn.results = #[.cell p ty, .tmp u]) (tmps : Array Value) (w : World) (g : Nat) (cs : List Value) (d : TypeDesc)
    (hp : tmps.getD p undef = .pointer (some ⟨g, 0, none⟩)) (hg : ∀ j (h : j < cs.length), w.cell? ⟨g, j, none⟩ = some cs[j])
    (hu : P.underlying ty = some d) (hd : aggD d = true) (hi : (P.info? ty).map (·.size) = some cs.length) :
    (results fn tmps).run P w = .ok (.tuple #[.agg cs.toArray, tmps.getD u undef]) w := by
  rw [results_cell_tmp h, hp]
  simp [asAddr, Result.andThen, run_loadVar_cells w g ty cs d hg hu hd hi]
theorem results_cells {P : Program} {fn : Func} {p : Tmp} {ty : TypeId} (h : fn.results = #[.cell p ty]) (tmps : Array Value) (w : World) (g : Nat) (cs : List Value) (d : TypeDesc)
    (hp : tmps.getD p undef = .pointer (some ⟨g, 0, none⟩)) (hg : ∀ j (h : j < cs.length), w.cell? ⟨g, j, none⟩ = some cs[j])
    (hu : P.underlying ty = some d) (hd : aggD d = true) (hi : (P.info? ty).map (·.size) = some cs.length) :
    (results fn tmps).run P w = .ok (.agg cs.toArray) w := by
  have hp' : tmps[p]?.getD undef = .pointer (some ⟨g, 0, none⟩) := by simpa using hp
  simp [results, h, hp', asAddr, run_loadVar_cells w g ty cs d hg hu hd hi]

/-- Six cells at once. -/
theorem six {w : World} {g : Nat} {v0 v1 v2 v3 v4 v5 : Value} (h0 : w.cell? ⟨g, 0, none⟩ = some v0) (h1 : w.cell? ⟨g, 1, none⟩ = some v1) (h2 : w.cell? ⟨g, 2, none⟩ = some v2) (h3 : w.cell? ⟨g, 3, none⟩ = some v3) (h4 : w.cell? ⟨g, 4, none⟩ = some v4) (h5 : w.cell? ⟨g, 5, none⟩ = some v5) :
    ∀ j (h : j < [v0, v1, v2, v3, v4, v5].length), w.cell? ⟨g, j, none⟩ = some [v0, v1, v2, v3, v4, v5][j]
  | 0, _ => h0
  | 1, _ => h1
  | 2, _ => h2
  | 3, _ => h3
  | 4, _ => h4
  | 5, _ => h5

theorem set6 {w : World} {g : Nat} {v0 v1 v2 v3 v4 v5 u0 u1 u2 u3 u4 u5 : Value} (h0 : w.cell? ⟨g, 0, none⟩ = some u0) (h1 : w.cell? ⟨g, 1, none⟩ = some u1) (h2 : w.cell? ⟨g, 2, none⟩ = some u2) (h3 : w.cell? ⟨g, 3, none⟩ = some u3) (h4 : w.cell? ⟨g, 4, none⟩ = some u4) (h5 : w.cell? ⟨g, 5, none⟩ = some u5) :
    ((((((w.setCell ⟨g, 0, none⟩ v0).setCell ⟨g, 1, none⟩ v1).setCell ⟨g, 2, none⟩ v2).setCell ⟨g, 3, none⟩ v3).setCell ⟨g, 4, none⟩ v4).setCell ⟨g, 5, none⟩ v5).cell? ⟨g, 0, none⟩ = some v0 ∧ ((((((w.setCell ⟨g, 0, none⟩ v0).setCell ⟨g, 1, none⟩ v1).setCell ⟨g, 2, none⟩ v2).setCell ⟨g, 3, none⟩ v3).setCell ⟨g, 4, none⟩ v4).setCell ⟨g, 5, none⟩ v5).cell? ⟨g, 1, none⟩ = some v1 ∧ ((((((w.setCell ⟨g, 0, none⟩ v0).setCell ⟨g, 1, none⟩ v1).setCell ⟨g, 2, none⟩ v2).setCell ⟨g, 3, none⟩ v3).setCell ⟨g, 4, none⟩ v4).setCell ⟨g, 5, none⟩ v5).cell? ⟨g, 2, none⟩ = some v2 ∧ ((((((w.setCell ⟨g, 0, none⟩ v0).setCell ⟨g, 1, none⟩ v1).setCell ⟨g, 2, none⟩ v2).setCell ⟨g, 3, none⟩ v3).setCell ⟨g, 4, none⟩ v4).setCell ⟨g, 5, none⟩ v5).cell? ⟨g, 3, none⟩ = some v3 ∧ ((((((w.setCell ⟨g, 0, none⟩ v0).setCell ⟨g, 1, none⟩ v1).setCell ⟨g, 2, none⟩ v2).setCell ⟨g, 3, none⟩ v3).setCell ⟨g, 4, none⟩ v4).setCell ⟨g, 5, none⟩ v5).cell? ⟨g, 4, none⟩ = some v4 ∧ ((((((w.setCell ⟨g, 0, none⟩ v0).setCell ⟨g, 1, none⟩ v1).setCell ⟨g, 2, none⟩ v2).setCell ⟨g, 3, none⟩ v3).setCell ⟨g, 4, none⟩ v4).setCell ⟨g, 5, none⟩ v5).cell? ⟨g, 5, none⟩ = some v5 := by
  refine ⟨?_, ?_, ?_, ?_, ?_, ?_⟩
  · rw [setCell_off (by omega), setCell_off (by omega), setCell_off (by omega), setCell_off (by omega), setCell_off (by omega)]; refine setCell_same (u := u0) ?_; exact h0
  · rw [setCell_off (by omega), setCell_off (by omega), setCell_off (by omega), setCell_off (by omega)]; refine setCell_same (u := u1) ?_; rw [setCell_off (by omega)]; exact h1
  · rw [setCell_off (by omega), setCell_off (by omega), setCell_off (by omega)]; refine setCell_same (u := u2) ?_; rw [setCell_off (by omega), setCell_off (by omega)]; exact h2
  · rw [setCell_off (by omega), setCell_off (by omega)]; refine setCell_same (u := u3) ?_; rw [setCell_off (by omega), setCell_off (by omega), setCell_off (by omega)]; exact h3
  · rw [setCell_off (by omega)]; refine setCell_same (u := u4) ?_; rw [setCell_off (by omega), setCell_off (by omega), setCell_off (by omega), setCell_off (by omega)]; exact h4
  · refine setCell_same (u := u5) ?_; rw [setCell_off (by omega), setCell_off (by omega), setCell_off (by omega), setCell_off (by omega), setCell_off (by omega)]; exact h5

theorem meth_info : (Tryd.prog.info? 57).map (·.size) = some 6 := by kernel_rfl

def zeroClass : Value := .agg #[.string ⟨#[]⟩, .string ⟨#[]⟩, .slice none 0 0, .int .i64 0, .int .i64 0, .slice none 0 0]
def zeroMeth : Value := .agg #[.string ⟨#[]⟩, .string ⟨#[]⟩, .int .i64 0, .int .i64 0, .int .i64 0, .slice none 0 0]

theorem Define_nil (cs : Array Value) (w : World) : Calls Tryd.prog 10 #[.pointer none, .agg cs] w fun e w' => e = .returned (.tuple #[.int .i64 0, .int .i64 2]) ∧ Below w.heap.size w w' := by
  go_enter Tryd.func10, Tryd.ntmps10
  go_wp2
  go_ret2
  exact ⟨rfl, (Below.refl _ _).alloc (Nat.le_refl _) _⟩
theorem Class_nil (id : Int) (w : World) : Calls Tryd.prog 12 #[.pointer none, .int .i64 id] w fun e w' => e = .returned (.tuple #[zeroClass, .int .i64 3]) ∧ Below w.heap.size w w' := by
  go_enter Tryd.func12, Tryd.ntmps12
  go_wp2_with fail
  refine (at_nil _ _).mono ?_
  rintro e w' ⟨rfl, rfl⟩
  go_wp2
  exact bodyPost_ret (results_cells_tmp rfl _ _ w.heap.size [_, _, _, _, _, _] _ rfl (six (World.cell?_alloc_new ..) (World.cell?_alloc_new ..) (World.cell?_alloc_new ..) (World.cell?_alloc_new ..) (World.cell?_alloc_new ..) (World.cell?_alloc_new ..)) Tryd.underlying32 rfl class_info) rfl ⟨rfl, (Below.refl _ _).alloc (Nat.le_refl _) _⟩
theorem Method_nil (a b : Int) (w : World) : Calls Tryd.prog 29 #[.pointer none, .agg #[.int .i64 a, .int .i64 b]] w fun e w' => e = .returned (.tuple #[zeroMeth, .int .i64 3]) ∧ Below w.heap.size w w' := by
  go_enter Tryd.func29, Tryd.ntmps29
  go_wp2_with fail
  refine (at_nil _ _).mono ?_
  rintro e w' ⟨rfl, rfl⟩
  go_wp2_with fail
  go_quiet (fail)
  go_wp2
  have hat := allocs_at [.cells #[.int .i64 a, .int .i64 b] 54, .cells #[.string ⟨#[]⟩, .string ⟨#[]⟩, .int .i64 0, .int .i64 0, .int .i64 0, .slice none 0 0] 57] w 1 (by simp)
  have hce : ∀ j : Nat, (((w.alloc (.cells #[.int .i64 a, .int .i64 b] 54)).alloc (.cells #[.string ⟨#[]⟩, .string ⟨#[]⟩, .int .i64 0, .int .i64 0, .int .i64 0, .slice none 0 0] 57)).drewN nq).cell? ⟨w.heap.size + 1, j, none⟩ = (#[Value.string ⟨#[]⟩, .string ⟨#[]⟩, .int .i64 0, .int .i64 0, .int .i64 0, .slice none 0 0])[j]? := fun j => cell_of_row _ _ j _ 57 (0, 0) hat
  have key := set6 (v0 := .string ⟨#[]⟩) (v1 := .string ⟨#[]⟩) (v2 := .int .i64 0) (v3 := .int .i64 0) (v4 := .int .i64 0) (v5 := .slice none 0 0) (hce 0) (hce 1) (hce 2) (hce 3) (hce 4) (hce 5)
  refine bodyPost_ret (results_cells_tmp rfl _ _ (w.heap.size + 1) [.string ⟨#[]⟩, .string ⟨#[]⟩, .int .i64 0, .int .i64 0, .int .i64 0, .slice none 0 0] _ rfl (six key.1 key.2.1 key.2.2.1 key.2.2.2.1 key.2.2.2.2.1 key.2.2.2.2.2) Tryd.underlying57 rfl meth_info) rfl ⟨rfl, ?_⟩
  have hB := allocs_below [.cells #[.int .i64 a, .int .i64 b] 54, .cells #[.string ⟨#[]⟩, .string ⟨#[]⟩, .int .i64 0, .int .i64 0, .int .i64 0, .slice none 0 0] 57] w
  have hB' : Below w.heap.size w (((w.alloc (.cells #[.int .i64 a, .int .i64 b] 54)).alloc (.cells #[.string ⟨#[]⟩, .string ⟨#[]⟩, .int .i64 0, .int .i64 0, .int .i64 0, .slice none 0 0] 57)).drewN nq) := ⟨hB.os, hB.tape, hB.output, hB.size, hB.block⟩
  exact (((((hB'.setCell (by simp) _).setCell (by simp) _).setCell (by simp) _).setCell (by simp) _).setCell (by simp) _).setCell (by simp) _
theorem Super_nil (id : Int) (w : World) : Calls Tryd.prog 14 #[.pointer none, .int .i64 id] w fun e w' => e = .returned (.tuple #[.int .i64 0, .int .i64 3]) ∧ w = w' := by
  go_enter Tryd.func14, Tryd.ntmps14
  go_wp2_with fail
  refine (at_nil _ _).mono ?_
  rintro e w' ⟨rfl, rfl⟩
  go_wp2
  go_ret2
  exact ⟨rfl, rfl⟩
theorem Depth_nil (id : Int) (w : World) : Calls Tryd.prog 22 #[.pointer none, .int .i64 id] w fun e w' => e = .returned (.tuple #[.int .i64 0, .int .i64 3]) ∧ w = w' := by
  go_enter Tryd.func22, Tryd.ntmps22
  go_wp2_with fail
  refine (at_nil _ _).mono ?_
  rintro e w' ⟨rfl, rfl⟩
  go_wp2
  go_ret2
  exact ⟨rfl, rfl⟩
theorem Chain_nil (id : Int) (w : World) : Calls Tryd.prog 19 #[.pointer none, .int .i64 id] w fun e w' => e = .returned (.tuple #[.slice none 0 0, .int .i64 3]) ∧ w = w' := by
  go_enter Tryd.func19, Tryd.ntmps19
  go_wp2
  go_step3
  go_wp2_with fail
  refine (at_nil _ _).mono ?_
  rintro e w' ⟨rfl, rfl⟩
  go_wp2
  rw [Exit.noGoto_ret]
  go_ret2
  exact ⟨rfl, rfl⟩
theorem Closure_nil (id : Int) (w : World) : Calls Tryd.prog 13 #[.pointer none, .int .i64 id] w fun e w' => e = .returned (.tuple #[.slice none 0 0, .int .i64 3]) ∧ w = w' := by
  go_enter Tryd.func13, Tryd.ntmps13
  go_wp2_with fail
  refine (at_nil _ _).mono ?_
  rintro e w' ⟨rfl, rfl⟩
  go_wp2
  go_ret2
  exact ⟨rfl, rfl⟩
theorem Find_nil (id : Int) (n d : ByteArray) (w : World) : Calls Tryd.prog 46 #[.pointer none, .int .i64 id, .string n, .string d] w fun e w' => e = .returned (.tuple #[.int .i64 0, .int .i64 3]) ∧ w = w' := by
  go_enter Tryd.func46, Tryd.ntmps46
  go_wp2_with fail
  refine (at_nil _ _).mono ?_
  rintro e w' ⟨rfl, rfl⟩
  go_wp2
  go_ret2
  exact ⟨rfl, rfl⟩
theorem Extends_nil (a b : Int) (w : World) : Calls Tryd.prog 16 #[.pointer none, .int .i64 a, .int .i64 b] w fun e w' => e = .returned (.bool false) ∧ w = w' := by
  go_enter Tryd.func16, Tryd.ntmps16
  go_wp2_with fail
  refine (at_nil _ _).mono ?_
  rintro e w' ⟨rfl, rfl⟩
  go_wp2_with fail
  refine (at_nil _ _).mono ?_
  rintro e w' ⟨rfl, rfl⟩
  go_wp2
  go_ret
  exact ⟨rfl, rfl⟩
theorem IsIface_nil (a : Int) (w : World) : Calls Tryd.prog 23 #[.pointer none, .int .i64 a] w fun e w' => e = .returned (.bool false) ∧ w = w' := by
  go_enter Tryd.func23, Tryd.ntmps23
  go_wp2_with fail
  refine (at_nil _ _).mono ?_
  rintro e w' ⟨rfl, rfl⟩
  go_wp2
  go_ret
  exact ⟨rfl, rfl⟩
theorem SamePackage_nil (a b : Int) (w : World) : Calls Tryd.prog 21 #[.pointer none, .int .i64 a, .int .i64 b] w fun e w' => e = .returned (.bool false) ∧ Below w.heap.size w w' := by
  go_enter Tryd.func21, Tryd.ntmps21
  go_wp2_with fail
  refine (at_nil _ _).mono ?_
  rintro e w' ⟨rfl, rfl⟩
  go_wp2_with fail
  refine (at_nil _ _).mono ?_
  rintro e w' ⟨rfl, rfl⟩
  go_wp2_with fail
  go_quiet (fail)
  go_wp2
  go_ret
  exact ⟨rfl, rfl, rfl, rfl, Nat.le_refl _, fun _ _ => rfl⟩
end Go.Proofs.YtmpkdgankficeaaDoor.Hi
