/- A method of a class that is none. -/
import Derived.Test.YtiiebakblkpkeaaGreatDoorMK
set_option maxRecDepth 100000
set_option maxHeartbeats 1000000
set_option linter.unusedVariables false
set_option linter.unusedSimpArgs false
namespace Go.Proofs.YtiiebakblkpkeaaGreatDoor.Hi
open Go.RowKit Bs

theorem Method_far {S : Nat → Prop} {bw : Nat} {w : World} {m : List EntM} (h : HW S bw w m) (hS : ∀ k, S k → k < w.heap.size) {a b : Int} (he : entAt m a = none) :
    Calls Tryz.prog 15 #[.pointer (some ⟨bw, 0, none⟩), .agg #[.int .i64 a, .int .i64 b]] w fun r w' => r = .returned (.tuple #[zeroMeth, .int .i64 3]) ∧ Below w.heap.size w w' := by
  obtain ⟨wa, hwa⟩ : ∃ wa, wa = (w.alloc (.cells #[.int .i64 a, .int .i64 b] 24)).alloc (.cells #[Value.string ⟨#[]⟩, .string ⟨#[]⟩, .int .i64 0, .int .i64 0, .int .i64 0, .slice none 0 0] 39) := ⟨_, rfl⟩
  have hba : Below w.heap.size w wa := by rw [hwa]; exact ((Below.refl _ _).alloc (Nat.le_refl _) _).alloc (by simp) _
  have hza : wa.heap.size = w.heap.size + 2 := by rw [hwa]; simp
  have i0 : wa.cell? ⟨w.heap.size, 0, none⟩ = some (.int .i64 a) := by rw [hwa]; exact alloc_old (World.cell?_alloc_new ..)
  have i1 : wa.cell? ⟨w.heap.size, 1, none⟩ = some (.int .i64 b) := by rw [hwa]; exact alloc_old (World.cell?_alloc_new ..)
  have r0 : ∀ j v, (#[Value.string ⟨#[]⟩, .string ⟨#[]⟩, .int .i64 0, .int .i64 0, .int .i64 0, .slice none 0 0])[j]? = some v → wa.cell? ⟨w.heap.size + 1, j, none⟩ = some v := fun j v hv => by
    rw [hwa]
    have := World.cell?_alloc_new (w.alloc (.cells #[.int .i64 a, .int .i64 b] 24)) #[Value.string ⟨#[]⟩, .string ⟨#[]⟩, .int .i64 0, .int .i64 0, .int .i64 0, .slice none 0 0] 39 j
    rw [World.size_alloc] at this
    exact this.trans hv
  have f0 : ∀ j, wa.frozen? ⟨w.heap.size + 1, j, none⟩ = false := fun j => by
    rw [hwa]
    have := frozen_new (w.alloc (.cells #[.int .i64 a, .int .i64 b] 24)) #[Value.string ⟨#[]⟩, .string ⟨#[]⟩, .int .i64 0, .int .i64 0, .int .i64 0, .slice none 0 0] 39 j
    rw [World.size_alloc] at this
    exact this
  have h' := h.alike hba.size (Alike.of_below hba hS)
  have hS' : ∀ k, S k → k < wa.heap.size := fun k hk => Nat.lt_of_lt_of_le (hS k hk) hba.size
  have HC := Lib.hid (at_out h' he)
  have HR := Lib.hid (And.intro r0 f0)
  have HBA := Lib.hid hba
  have HZA := Lib.hid hza
  clear h' r0 f0 hba hza h hS he
  go_enter Tryz.func15, Tryz.ntmps15
  go_wp2_with fail
  rw [← hwa]
  clear hwa
  refine HC.out.mono ?_
  rintro _ w' ⟨rfl, rfl⟩
  have s0 := HR.out.1 0 _ rfl
  have s1 := HR.out.1 1 _ rfl
  have s2 := HR.out.1 2 _ rfl
  have s3 := HR.out.1 3 _ rfl
  have s4 := HR.out.1 4 _ rfl
  have s5 := HR.out.1 5 _ rfl
  have t0 := HR.out.2 0
  have t1 := HR.out.2 1
  have t2 := HR.out.2 2
  have t3 := HR.out.2 3
  have t4 := HR.out.2 4
  have t5 := HR.out.2 5
  simp only [List.getElem_toArray, List.getElem_cons_zero, List.getElem_cons_succ] at s0 s1 s2 s3 s4 s5
  go_wp2_with fail
  go_quiet (fail)
  go_wp2
  have key := set6 (w := wa.drewN nq) (v0 := .string ⟨#[]⟩) (v1 := .string ⟨#[]⟩) (v2 := .int .i64 0) (v3 := .int .i64 0) (v4 := .int .i64 0) (v5 := .slice none 0 0) s0 s1 s2 s3 s4 s5
  refine bodyPost_ret (results_cells_tmp rfl _ _ (w.heap.size + 1) [.string ⟨#[]⟩, .string ⟨#[]⟩, .int .i64 0, .int .i64 0, .int .i64 0, .slice none 0 0] _ rfl (six key.1 key.2.1 key.2.2.1 key.2.2.2.1 key.2.2.2.2.1 key.2.2.2.2.2) Tryz.underlying39 rfl meth_info) rfl ⟨rfl, ?_⟩
  have hq : w.heap.size ≤ w.heap.size + 1 := by omega
  exact ((((((below_drewN HBA.out _).setCell hq _).setCell hq _).setCell hq _).setCell hq _).setCell hq _).setCell hq _
end Go.Proofs.YtiiebakblkpkeaaGreatDoor.Hi
