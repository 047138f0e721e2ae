/- Arguments of a row, opened: a reference. -/
import Derived.Test.YtiiebakblkpkeaaGreatDoorMO
set_option maxRecDepth 100000
set_option linter.unusedVariables false
set_option linter.unusedSimpArgs false
namespace Go.Proofs.YtiiebakblkpkeaaGreatDoor.Hi
open Go.RowKit Go.ChangeShapes Bs

theorem four_of {cs : List Value} (h : cs.length = 4) : ∃ c0 c1 c2 c3, cs = [c0, c1, c2, c3] := by
  match cs, h with
  | [c0, c1, c2, c3], _ => exact ⟨c0, c1, c2, c3, rfl⟩
/-- A reference's texts are as long as a text may be. -/
def RefFit (r : RefM) : Prop := r.cls.size ≤ maxLen ∧ r.name.size ≤ maxLen ∧ r.desc.size ≤ maxLen
section
variable {H : Type} {enc : TypeId × Value → H} {w : World} {held : Bool}
theorem open_ref {fuel : Nat} {cs : List Value} {x : DataW H × List MemPlace} (h : DataW.trod enc Tryz.prog w 0 (fun _ => true) held fuel 30 cs = some x) (hw : Light (x.1.weights Tryz.prog 30)) : ∃ r : RefM, cs = [.bool r.iface, .string r.cls, .string r.name, .string r.desc] ∧ RefFit r := by
  obtain ⟨c0, c1, c2, c3, rfl⟩ := four_of ((struct_len Tryz.underlying30 h).trans (by kernel_rfl))
  obtain ⟨m0, y0', g0, _⟩ := open_field Tryz.underlying30 h hw 0 _ rfl
  obtain ⟨m1, y1', g1, _⟩ := open_field Tryz.underlying30 h hw 1 _ rfl
  obtain ⟨m2, y2', g2, _⟩ := open_field Tryz.underlying30 h hw 2 _ rfl
  obtain ⟨m3, y3', g3, _⟩ := open_field Tryz.underlying30 h hw 3 _ rfl
  obtain ⟨v3, e3, _⟩ := DataW.trod_bool (by kernel_rfl) g0
  obtain ⟨v4, e4, _, b4⟩ := DataW.trod_string (by kernel_rfl) g1
  obtain ⟨v5, e5, _, b5⟩ := DataW.trod_string (by kernel_rfl) g2
  obtain ⟨v6, e6, _, b6⟩ := DataW.trod_string (by kernel_rfl) g3
  change [c0] = _ at e3; change [c1] = _ at e4; change [c2] = _ at e5; change [c3] = _ at e6
  cases e3; cases e4; cases e5; cases e6
  exact ⟨⟨v3, v4, v5, v6⟩, rfl, b4, b5, b6⟩
theorem ref_arg {v : Value} {r : Reach} {b0 : Nat} (hval : Value.okWide Tryz.prog w r b0 30 v) {d : DataW H} {ps : List MemPlace} (h : DataW.Trod enc Tryz.prog w 0 (fun _ => true) held 30 v d ps) (hw : Light (d.weights Tryz.prog 30)) :
    ∃ f : RefM, v = .agg #[.bool f.iface, .string f.cls, .string f.name, .string f.desc] ∧ RefFit f := by
  obtain ⟨cs, rfl, hsz⟩ := WideShapes.okWide_struct Tryz.underlying30 hval
  obtain ⟨fuel, hf⟩ := h
  obtain ⟨f, hc, hb⟩ := open_ref hf hw
  refine ⟨f, ?_, hb⟩
  simp only [Value.cells] at hc
  congr 1
  exact Array.toList_inj.1 hc
end
end Go.Proofs.YtiiebakblkpkeaaGreatDoor.Hi
