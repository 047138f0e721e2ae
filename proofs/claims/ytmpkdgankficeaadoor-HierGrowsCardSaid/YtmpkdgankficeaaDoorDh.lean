/- One run-time package. -/
import Derived.Test.YtmpkdgankficeaaDoorDg
import Derived.Deep.RegionHeld3
import Derived.StillTailTactics
set_option maxRecDepth 100000
set_option maxHeartbeats 1000000
set_option linter.unusedVariables false
set_option linter.unusedSimpArgs false
namespace Go.Proofs.YtmpkdgankficeaaDoor.Hi
open Go.RowKit Bs

theorem SamePackage_in {S : Nat → Prop} {bw : Nat} {w : World} {m : List EntM} (h : HW S bw w m) (hm : ∀ e ∈ m, e.c.name.size ≤ 1000) {a b : Nat} (ha : a < m.length) (hb : b < m.length) :
    Calls Tryd.prog 21 #[.pointer (some ⟨bw, 0, none⟩), .int .i64 a, .int .i64 b] w fun r w' => r = .returned (.bool (togB m[a].c.name m[b].c.name m[a].c.loader m[b].c.loader)) ∧ Below w.heap.size w w' := by
  obtain ⟨be, ia, ic, ma, mc, ca, cc, h9, hc⟩ := at_in h (entAt_nat ha)
  obtain ⟨bf, ia', ic', ma', mc', ca', cc', h9', hc'⟩ := at_in h (entAt_nat hb)
  have k0 := h9.k0
  have k1 := h9.k1
  have k2 := h9.k2
  have k3 := h9.k3
  have k4 := h9.k4
  have k5 := h9.k5
  have j0 := h9'.k0
  have j1 := h9'.k1
  have j2 := h9'.k2
  have j3 := h9'.k3
  have j4 := h9'.k4
  have j5 := h9'.k5
  have HT := Lib.hid (fun w' => Together m[a].c.name m[b].c.name m[a].c.loader m[b].c.loader (.string m[a].c.super) (.slice ia m[a].c.ifaces.length ic) (.int .i64 m[a].c.flags) (.slice ma m[a].c.meths.length mc) (.string m[b].c.super) (.slice ia' m[b].c.ifaces.length ic') (.int .i64 m[b].c.flags) (.slice ma' m[b].c.meths.length mc') w' (by have := hm _ (List.getElem_mem ha); omega) (by have := hm _ (List.getElem_mem hb); omega))
  clear h9 h9' h hm
  generalize togB m[a].c.name m[b].c.name m[a].c.loader m[b].c.loader = tb at HT
  generalize m[a].c = c at k0 k1 k2 k3 k4 k5 HT
  generalize m[b].c = d at j0 j1 j2 j3 j4 j5 HT
  go_enter Tryd.func21, Tryd.ntmps21
  go_wp2_with fail
  refine hc.mono ?_
  rintro _ w' ⟨rfl, rfl⟩
  go_wp2_with fail
  refine hc'.mono ?_
  rintro _ w' ⟨rfl, rfl⟩
  clear hc hc'
  go_wp2_with fail
  go_still_tail 15, (by kernel_rfl)
  change wpList _ _ _ _ _ w.drew
  go_wp2_with fail
  refine (HT.out _).mono ?_
  rintro e w1 ⟨rfl, hb1⟩
  have HB1 : Hid (Below w.heap.size w w1) := Lib.hid ((Below.drew (Below.refl _ _)).trans hb1)
  clear hb1 k0 k1 k2 k3 k4 k5 j0 j1 j2 j3 j4 j5 HT
  go_wp2
  go_ret
  exact ⟨rfl, HB1.out⟩
end Go.Proofs.YtmpkdgankficeaaDoor.Hi
