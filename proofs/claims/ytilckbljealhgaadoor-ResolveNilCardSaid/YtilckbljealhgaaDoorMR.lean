/- Instructions: are they sound? -/
import Derived.Test.YtilckbljealhgaaDoorMQ
set_option maxRecDepth 100000
set_option maxHeartbeats 8000000
set_option linter.unusedVariables false
set_option linter.unusedSimpArgs false
namespace Go.Proofs.YtilckbljealhgaaDoor.Pr
open Go.RowKit Bs

def refZ (ifc : Bool) (cls nm ds : List UInt8) : Bool := !ifc && cls.isEmpty && nm.isEmpty && ds.isEmpty
/-- Has the instruction nothing but what its operand has? -/
def bareB (k n : Int) (ty : List UInt8) (ifc : Bool) (cls nm ds : List UInt8) : Bool :=
  if k = 1 ∨ k = 2 ∨ k = 3 then ty.isEmpty && refZ ifc cls nm ds else if k = 4 ∨ k = 5 ∨ k = 6 then decide (n = 0) && refZ ifc cls nm ds else if k = 7 then refZ ifc cls nm ds
  else if k = 8 then decide (n = 0) && ty.isEmpty else decide (n = 0) && ty.isEmpty && refZ ifc cls nm ds
def instB (op n : Int) (ty : List UInt8) (ifc : Bool) (cls nm ds : List UInt8) : Bool := bareB (Lf.operandOf op) n ty ifc cls nm ds && opndB (Lf.operandOf op) n ty cls nm ds

theorem ba_no {l : List UInt8} (h : ¬(ba l).toList = []) : l.isEmpty = false := by
  rw [ba_toList] at h
  cases l with
  | nil => exact absurd rfl h
  | cons x r => rfl
theorem ba_yes {l : List UInt8} (h : (ba l).toList = []) : l.isEmpty = true := by
  rw [ba_toList] at h
  rw [h]; rfl

end Go.Proofs.YtilckbljealhgaaDoor.Pr
/- Instructions: a method's code. -/
set_option maxRecDepth 100000
set_option maxHeartbeats 2000000
set_option linter.unusedVariables false
set_option linter.unusedSimpArgs false
namespace Go.Proofs.YtilckbljealhgaaDoor.Pr
open Go.RowKit Bs Hi

def instC (i : InstM) : Bool := instB i.op i.n i.ty.data.toList i.ref.iface i.ref.cls.data.toList i.ref.name.data.toList i.ref.desc.data.toList
def stepB (i : InstM) (len : Nat) (locals : Int) : Bool := instC i && !(decide (Lf.operandOf i.op = 2) && decide (locals ≤ i.n)) && !(decide (Lf.operandOf i.op = 3) && decide ((len : Int) ≤ i.n))
/-- Is a method's code sound? -/
def codeB (code : List InstM) (locals : Int) : Bool := decide (1 ≤ code.length) && decide (code.length ≤ 200) && code.all fun i => stepB i code.length locals


end Go.Proofs.YtilckbljealhgaaDoor.Pr
