/- Arguments of a row, opened: a type. -/
import Derived.Test.YtiiebakblkpkeaaGreatDoorMO
import Derived.Test.YtiiebakblkpkeaaGreatDoorVA
set_option maxRecDepth 100000
set_option linter.unusedVariables false
set_option linter.unusedSimpArgs false
namespace Go.Proofs.YtiiebakblkpkeaaGreatDoor.Hi
open Go.RowKit Go.ChangeShapes Bs

theorem two_ofT {cs : List Value} (h : cs.length = 2) : ∃ c0 c1, cs = [c0, c1] := by
  match cs, h with
  | [c0, c1], _ => exact ⟨c0, c1, rfl⟩
section
variable {H : Type} {enc : TypeId × Value → H} {w : World} {held : Bool}
theorem open_type {fuel : Nat} {cs : List Value} {x : DataW H × List MemPlace} (h : DataW.trod enc Tryz.prog w 0 (fun _ => true) held fuel 33 cs = some x) (hw : Light (x.1.weights Tryz.prog 33)) : ∃ t : TyM, cs = [.int .i64 t.dims, .string t.name] ∧ t.name.size ≤ maxLen := by
  obtain ⟨c0, c1, rfl⟩ := two_ofT ((struct_len Tryz.underlying33 h).trans (by kernel_rfl))
  obtain ⟨m0, y0', g0, _⟩ := open_field Tryz.underlying33 h hw 0 _ rfl
  obtain ⟨m1, y1', g1, _⟩ := open_field Tryz.underlying33 h hw 1 _ rfl
  obtain ⟨v3, e3, _⟩ := DataW.trod_int (k := .i64) (by kernel_rfl) g0
  obtain ⟨v4, e4, _, b4⟩ := DataW.trod_string (by kernel_rfl) g1
  change [c0] = _ at e3; change [c1] = _ at e4
  cases e3; cases e4
  exact ⟨⟨v3, v4⟩, rfl, b4⟩
theorem type_arg {v : Value} {r : Reach} {b0 : Nat} (hval : Value.okWide Tryz.prog w r b0 33 v) {d : DataW H} {ps : List MemPlace} (h : DataW.Trod enc Tryz.prog w 0 (fun _ => true) held 33 v d ps) (hw : Light (d.weights Tryz.prog 33)) :
    ∃ t : TyM, v = .agg #[.int .i64 t.dims, .string t.name] ∧ t.name.size ≤ maxLen := by
  obtain ⟨cs, rfl, hsz⟩ := WideShapes.okWide_struct Tryz.underlying33 hval
  obtain ⟨fuel, hf⟩ := h
  obtain ⟨t, hc, hb⟩ := open_type hf hw
  refine ⟨t, ?_, hb⟩
  simp only [Value.cells] at hc
  congr 1
  exact Array.toList_inj.1 hc
end
end Go.Proofs.YtiiebakblkpkeaaGreatDoor.Hi
