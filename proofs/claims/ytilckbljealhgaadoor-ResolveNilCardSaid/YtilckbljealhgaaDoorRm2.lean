/- ResolveNil: the walk. -/
import Derived.Test.YtilckbljealhgaaDoorRl
set_option maxRecDepth 100000
set_option maxHeartbeats 1000000
set_option linter.unusedVariables false
set_option linter.unusedSimpArgs false
namespace Go.Proofs.YtilckbljealhgaaDoor.Hi
open Go.RowKit Bs

theorem RClass_nil (dd : Int) (s : ByteArray) (w : World) : Calls Tryd.prog 5 #[.pointer none, .int .i64 dd, .string s] w fun r w' => r = .returned (.tuple #[.agg #[.int .i64 0, .string ⟨#[]⟩], .int .i64 2]) ∧ Below w.heap.size w w' := by
  have HS := Lib.hid (TyAt.start w)
  go_enter Tryd.func5, Tryd.ntmps5
  go_wp2
  exact bodyPost_ret (results_cells_tmp rfl _ _ w.heap.size [.int .i64 0, .string ⟨#[]⟩] _ rfl (two HS.out.s0 HS.out.s1) Tryd.underlying24 rfl type_info2) rfl ⟨rfl, HS.out.bel⟩
theorem Look_nil (c : Int) (n d : ByteArray) (b : Bool) (v : Value) (w : World) : Calls Tryd.prog 14 #[.pointer none, .int .i64 c, .string n, .string d, .bool b, v] w fun r w' => r = .returned (.tuple #[.agg #[.int .i64 0, .int .i64 0], .int .i64 2]) ∧ Below w.heap.size w w' := by
  have HS := Lib.hid (IdAt.start w)
  go_enter Tryd.func14, Tryd.ntmps14
  go_wp2
  exact bodyPost_ret (results_cells_tmp rfl _ _ w.heap.size [.int .i64 0, .int .i64 0] _ rfl (two HS.out.s0 HS.out.s1) Tryd.underlying29 rfl id_info2) rfl ⟨rfl, HS.out.bel⟩
theorem RMethod_nil (dd : Int) (b : Bool) (x y z : ByteArray) (w : World) : Calls Tryd.prog 8 #[.pointer none, .int .i64 dd, .agg #[.bool b, .string x, .string y, .string z]] w fun r w' => r = .returned (.tuple #[.agg #[.int .i64 0, .int .i64 0], .int .i64 2]) ∧ Below w.heap.size w w' := by
  have hb : Below w.heap.size w ((w.alloc (.cells #[.bool b, .string x, .string y, .string z] 34)).alloc (.cells #[.int .i64 0, .int .i64 0] 29)) := ((Below.refl _ _).alloc (Nat.le_refl _) _).alloc (by simp) _
  go_enter Tryd.func8, Tryd.ntmps8
  go_wp2
  exact bodyPost_ret (results_cells_tmp rfl _ _ (w.heap.size + 1) [.int .i64 0, .int .i64 0] _ rfl (two (alloc_at (by simp) _ _ rfl) (alloc_at (by simp) _ _ rfl)) Tryd.underlying29 rfl id_info2) rfl ⟨rfl, hb⟩
theorem Lookup_nil (c : Int) (n d : ByteArray) (w : World) : Calls Tryd.prog 6 #[.pointer none, .int .i64 c, .string n, .string d] w fun r w' => r = .returned (.tuple #[.agg #[.int .i64 0, .int .i64 0], .int .i64 2]) ∧ Below w.heap.size w w' := by
  have HS := Lib.hid (IdAt.start w)
  obtain ⟨wa, hwa⟩ : ∃ wa, ((w.alloc (.cells #[.int .i64 0, .int .i64 0] 29)).alloc (.cells #[.func (.func 15) #[] #[]] 76)) = wa := ⟨_, rfl⟩
  have hba : Below (w.alloc (.cells #[.int .i64 0, .int .i64 0] 29)).heap.size (w.alloc (.cells #[.int .i64 0, .int .i64 0] 29)) wa := by rw [← hwa]; exact (Below.refl _ _).alloc (Nat.le_refl _) _
  have HSA := Lib.hid (HS.out.next hba)
  clear HS hba
  go_enter Tryd.func6, Tryd.ntmps6
  go_wp2_with fail
  try rw [hwa]
  clear hwa
  refine (Look_nil _ _ _ _ _ _).mono ?_
  rintro _ w1 ⟨rfl, hb⟩
  have HB := Lib.hid (HSA.out.next hb)
  have s0 := HB.out.s0
  have s1 := HB.out.s1
  have t0 := HB.out.t 0
  have t1 := HB.out.t 1
  clear hb HSA
  go_wp2
  refine bodyPost_ret (results_cells_tmp rfl _ _ w.heap.size [.int .i64 0, .int .i64 0] _ rfl (HB.out.two _ _) Tryd.underlying29 rfl id_info2) rfl ⟨rfl, HB.out.end _ _⟩
theorem LookupI_nil (c : Int) (n d : ByteArray) (w : World) : Calls Tryd.prog 7 #[.pointer none, .int .i64 c, .string n, .string d] w fun r w' => r = .returned (.tuple #[.agg #[.int .i64 0, .int .i64 0], .int .i64 2]) ∧ Below w.heap.size w w' := by
  have HS := Lib.hid (IdAt.start w)
  obtain ⟨wa, hwa⟩ : ∃ wa, ((w.alloc (.cells #[.int .i64 0, .int .i64 0] 29)).alloc (.cells #[.func (.func 16) #[] #[], .func (.func 17) #[] #[]] 76)) = wa := ⟨_, rfl⟩
  have hba : Below (w.alloc (.cells #[.int .i64 0, .int .i64 0] 29)).heap.size (w.alloc (.cells #[.int .i64 0, .int .i64 0] 29)) wa := by rw [← hwa]; exact (Below.refl _ _).alloc (Nat.le_refl _) _
  have HSA := Lib.hid (HS.out.next hba)
  clear HS hba
  go_enter Tryd.func7, Tryd.ntmps7
  go_wp2_with fail
  try rw [hwa]
  clear hwa
  refine (Look_nil _ _ _ _ _ _).mono ?_
  rintro _ w1 ⟨rfl, hb⟩
  have HB := Lib.hid (HSA.out.next hb)
  have s0 := HB.out.s0
  have s1 := HB.out.s1
  have t0 := HB.out.t 0
  have t1 := HB.out.t 1
  clear hb HSA
  go_wp2
  refine bodyPost_ret (results_cells_tmp rfl _ _ w.heap.size [.int .i64 0, .int .i64 0] _ rfl (HB.out.two _ _) Tryd.underlying29 rfl id_info2) rfl ⟨rfl, HB.out.end _ _⟩

theorem below_al {w w2 w3 : World} {o : Obj} (h : Below w.heap.size w w2) (hb : Below (w2.alloc o).heap.size (w2.alloc o) w3) : Below w.heap.size w w3 :=
  (h.alloc h.size o).trans (hb.mono (by have := h.size; simp; omega))
theorem ResolveNil (w : World) (he : Lf.Env w) : Calls Tryd.prog 3 #[] w fun e w' => e = .returned (.bool true) ∧ Below w.heap.size w w' := by
  have HA := Lib.hid (awake11 w he)
  clear he
  go_enter Tryd.func3, Tryd.ntmps3
  go_wp2_with fail
  refine HA.out.mono ?_
  rintro e w1 ⟨rfl, hb⟩
  have HB1 := Lib.hid hb
  clear hb HA
  go_wp2_with fail
  refine (RClass_nil _ _ _).mono ?_
  rintro e w2 ⟨rfl, hb⟩
  have HB2 := Lib.hid (HB1.out.trans (hb.mono HB1.out.size))
  clear hb
  go_wp2_with fail
  refine (Lookup_nil _ _ _ _).mono ?_
  rintro e w3 ⟨rfl, hb⟩
  have HB3 := Lib.hid (below_al HB2.out hb)
  clear hb
  go_wp2_with fail
  refine (LookupI_nil _ _ _ _).mono ?_
  rintro e w4 ⟨rfl, hb⟩
  have HB4 := Lib.hid (below_al HB3.out hb)
  clear hb
  go_wp2_with fail
  refine (RMethod_nil _ _ _ _ _ _).mono ?_
  rintro e w5 ⟨rfl, hb⟩
  have HB5 := Lib.hid (below_al HB4.out hb)
  have HB6 := Lib.hid (HB5.out.alloc HB5.out.size (.cells #[.int .i64 0, .int .i64 0] 29))
  clear hb
  go_wp2
  go_ret
  exact ⟨rfl, HB6.out⟩
end Go.Proofs.YtilckbljealhgaaDoor.Hi
