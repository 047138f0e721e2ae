/- A class that is none. -/
import Derived.Test.YtipinmbpdgjalaaGreatDoorFd
set_option maxRecDepth 100000
set_option maxHeartbeats 2000000
set_option linter.unusedVariables false
set_option linter.unusedSimpArgs false
namespace Go.Proofs.YtipinmbpdgjalaaGreatDoor.Hi
open Go.RowKit Bs

theorem Class_none {S : Nat → Prop} {bw : Nat} {w : World} {m : List EntM} (h : HW S bw w m) (hS : ∀ k, S k → k < w.heap.size) {id : Int} (he : entAt m id = none) :
    Calls Tryz.prog 20 #[.pointer (some ⟨bw, 0, none⟩), .int .i64 id] w fun r w' => r = .returned (.tuple #[.agg #[.string ⟨#[]⟩, .string ⟨#[]⟩, .slice none 0 0, .int .i64 0, .int .i64 0, .slice none 0 0], .int .i64 3]) ∧ Below w.heap.size w w' := by
  have hba : Below w.heap.size w (w.alloc (.cells #[.string ⟨#[]⟩, .string ⟨#[]⟩, .slice none 0 0, .int .i64 0, .int .i64 0, .slice none 0 0] 26)) := (Below.refl _ _).alloc (Nat.le_refl _) _
  have HA := Lib.hid (at_out (h.alike hba.size (Alike.of_below hba hS)) he)
  clear h hba
  go_enter Tryz.func20, Tryz.ntmps20
  go_wp2_with fail
  refine HA.out.mono ?_
  rintro e w' ⟨rfl, rfl⟩
  go_wp2
  exact bodyPost_ret (results_cells_tmp rfl _ _ w.heap.size [_, _, _, _, _, _] _ rfl (six (World.cell?_alloc_new ..) (World.cell?_alloc_new ..) (World.cell?_alloc_new ..) (World.cell?_alloc_new ..) (World.cell?_alloc_new ..) (World.cell?_alloc_new ..)) Tryz.underlying26 rfl class_info) rfl ⟨rfl, (Below.refl _ _).alloc (Nat.le_refl _) _⟩
end Go.Proofs.YtipinmbpdgjalaaGreatDoor.Hi
