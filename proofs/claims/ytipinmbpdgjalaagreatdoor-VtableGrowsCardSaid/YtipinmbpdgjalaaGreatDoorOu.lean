/- Arguments of a row, opened: a method's place. -/
import Derived.Test.YtipinmbpdgjalaaGreatDoorMO
set_option maxRecDepth 100000
set_option linter.unusedVariables false
set_option linter.unusedSimpArgs false
namespace Go.Proofs.YtipinmbpdgjalaaGreatDoor.Hi
open Go.RowKit Go.ChangeShapes Bs

theorem two_of {cs : List Value} (h : cs.length = 2) : ∃ c0 c1, cs = [c0, c1] := by
  match cs, h with
  | [c0, c1], _ => exact ⟨c0, c1, rfl⟩
section
variable {H : Type} {enc : TypeId × Value → H} {w : World} {held : Bool}
theorem open_id {fuel : Nat} {cs : List Value} {x : DataW H × List MemPlace} (h : DataW.trod enc Tryz.prog w 0 (fun _ => true) held fuel 38 cs = some x) (hw : Light (x.1.weights Tryz.prog 38)) : ∃ p : Int × Int, cs = [.int .i64 p.1, .int .i64 p.2] := by
  obtain ⟨c0, c1, rfl⟩ := two_of ((struct_len Tryz.underlying38 h).trans (by kernel_rfl))
  obtain ⟨m0, y0', g0, _⟩ := open_field Tryz.underlying38 h hw 0 _ rfl
  obtain ⟨m1, y1', g1, _⟩ := open_field Tryz.underlying38 h hw 1 _ rfl
  obtain ⟨v3, e3, _⟩ := DataW.trod_int (k := .i64) (by kernel_rfl) g0
  obtain ⟨v4, e4, _⟩ := DataW.trod_int (k := .i64) (by kernel_rfl) g1
  change [c0] = _ at e3; change [c1] = _ at e4
  cases e3; cases e4
  exact ⟨(v3, v4), rfl⟩
theorem id_arg {v : Value} {r : Reach} {b0 : Nat} (hval : Value.okWide Tryz.prog w r b0 38 v) {d : DataW H} {ps : List MemPlace} (h : DataW.Trod enc Tryz.prog w 0 (fun _ => true) held 38 v d ps) (hw : Light (d.weights Tryz.prog 38)) :
    ∃ p : Int × Int, v = .agg #[.int .i64 p.1, .int .i64 p.2] := by
  obtain ⟨cs, rfl, hsz⟩ := WideShapes.okWide_struct Tryz.underlying38 hval
  obtain ⟨fuel, hf⟩ := h
  obtain ⟨p, hc⟩ := open_id hf hw
  refine ⟨p, ?_⟩
  simp only [Value.cells] at hc
  congr 1
  exact Array.toList_inj.1 hc
end
end Go.Proofs.YtipinmbpdgjalaaGreatDoor.Hi
