/- Selection: a nil world; a law's world. -/
import Derived.Test.YtiiebakblkpkeaaGreatDoorWf
set_option maxRecDepth 100000
set_option maxHeartbeats 4000000
set_option linter.unusedVariables false
set_option linter.unusedSimpArgs false
namespace Go.Proofs.YtiiebakblkpkeaaGreatDoor.Hi
open Go.RowKit Bs
attribute [local go_sem ↓] Go.wp_at_zero Go.wp_at_succ

theorem built12 (a : Option Addr) (c : Nat) (xs : List ClsM) (w : World) (hx : ClsSl (fun b => b < w.heap.size) w (.slice a xs.length c) xs) (he : Lf.Env w) :
    Calls Tryz.prog 14 #[.slice a xs.length c] w fun e w' => e = .returned (.pointer (some ⟨w.heap.size + 1, 0, none⟩)) ∧ Built w.heap.size (w.heap.size + 1) w w' (defs xs) := by
  have HX := Lib.hid hx
  have HE := Lib.hid he
  obtain ⟨a', c', hf, hle, hby, hcells⟩ := hx
  injection hf with hf1 hf2 hf3
  subst hf1; subst hf3
  clear hcells he
  go_enter Tryz.func14, Tryz.ntmps14
  go_wp2_with fail
  refine (built_new _).mono ?_
  rintro e w2 ⟨rfl, h2⟩
  have H0 := Lib.hid h2
  clear h2
  obtain ⟨B, hB⟩ : ∃ B, w.heap.size = B := ⟨_, rfl⟩
  rw [hB] at H0 ⊢
  have HBE := Lib.hid hB
  clear hB
  go_wp2_with fail
  go_loopg [4] xs.length (fun gk u wr => ∃ (k : Nat) (m : List EntM), Hid (k + gk = xs.length ∧ m = defs (xs.take k)) ∧ u = .int .i64 k ∧ Hid (Built B (B + 1) w wr m))
  case atStart => exact ⟨0, startM, Lib.hid ⟨Nat.zero_add _, by simp [defs]⟩, rfl, H0⟩
  case round =>
    clear H0
    obtain ⟨k, m, hk, rfl, HB⟩ := hrel
    by_cases hlt : k < xs.length
    · have hlt' : (k : Int) < (xs.length : Int) := by omega
      obtain ⟨b, o, v2, v5, rfl, g0, g1, g2, g3, g4, g5, hcl, ⟨ia, ic, rfl⟩, ⟨ma, mc, rfl⟩⟩ := cls_elem HX.out (fun _ h => h) HB.out.below hlt
      have HD := Lib.hid (Define HB.out.hw HB.out.ord.short hcl (fun q hq => Nat.lt_of_lt_of_le hq HB.out.below.size) HB.out.live (HE.out.below HB.out.below))
      have HM : Hid (defs (xs.take (k + 1)) = defM m xs[k]) := Lib.hid (by rw [List.take_succ_eq_append_getElem hlt, defs_snoc, hk.out.2])
      clear hcl
      generalize xs[k] = c at g0 g1 g2 g3 g4 g5 HD HM
      go_wp2_with fail
      refine HD.out.mono ?_
      rintro e w3 ⟨rfl, hw3, hc3⟩
      have HB3 := Lib.hid (HB.out.define c hw3 hc3)
      clear hw3 hc3 g0 g1 g2 g3 g4 g5 HD
      go_wp2
      go_roundg (xs.length - (k + 1))
      case measure => have := hk.out.1; omega
      case rel => exact ⟨k + 1, defM m c, Lib.hid ⟨by omega, HM.out.symm⟩, by go_num, HB3⟩
    · have hkn : k = xs.length := by have := hk.out.1; omega
      have HM : Hid (m = defs xs) := Lib.hid (by rw [hk.out.2, hkn, List.take_length])
      clear hkn
      go_wp2
      go_ret
      have hb := HBE.out
      subst hb
      exact ⟨rfl, by rw [← HM.out]; exact HB.out⟩

theorem awake_vir : virM startM (0 : Int) ((0 : Int), (1 : Int)) = ((0, 1), 0) := by decide +kernel
theorem awake12 (w : World) : Calls Tryz.prog 9 #[] w fun r w' => r = .returned (.bool true) ∧ Below w.heap.size w w' := by
  go_enter Tryz.func9, Tryz.ntmps9
  go_wp2_with fail
  refine (built_new _).mono ?_
  rintro _ w1 ⟨rfl, h1⟩
  have HB1 := Lib.hid h1.below
  have HV := Lib.hid (CVirtual h1 0 ((0 : Int), (1 : Int)))
  rw [awake_vir] at HV
  clear h1
  go_wp2_with fail
  refine HV.out.mono ?_
  rintro _ w2 ⟨rfl, hb⟩
  have HB2 := Lib.hid (HB1.out.trans (hb.mono HB1.out.size))
  obtain ⟨wm, hwm⟩ : ∃ wm, (w2.alloc (.cells #[.int .i64 0, .int .i64 1] 24)) = wm := ⟨_, rfl⟩
  have hbm : Below w2.heap.size w2 wm := by rw [← hwm]; exact (Below.refl _ _).alloc (Nat.le_refl _) _
  have m0 : wm.cell? ⟨w2.heap.size, 0, none⟩ = some (.int .i64 0) := by rw [← hwm]; exact World.cell?_alloc_new ..
  have m1 : wm.cell? ⟨w2.heap.size, 1, none⟩ = some (.int .i64 1) := by rw [← hwm]; exact World.cell?_alloc_new ..
  have HB3 := Lib.hid (HB2.out.trans (hbm.mono HB2.out.size))
  clear hb hbm HV HB1 HB2
  go_wp2
  try rw [hwm]
  go_ret
  exact ⟨rfl, HB3.out⟩

/-! ### A nil world -/

theorem CVirtual_nil (r : Int) (p : Int × Int) (w : World) : Calls Tryz.prog 10 #[.pointer none, .int .i64 r, .agg #[.int .i64 p.1, .int .i64 p.2]] w fun e w' => e = .returned (.tuple #[.agg #[.int .i64 0, .int .i64 0], .int .i64 2]) ∧ Below w.heap.size w w' := by
  obtain ⟨wp, hwp⟩ : ∃ wp, (w.alloc (.cells #[.int .i64 p.1, .int .i64 p.2] 24)) = wp := ⟨_, rfl⟩
  have hbp : Below w.heap.size w wp := by rw [← hwp]; exact (Below.refl _ _).alloc (Nat.le_refl _) _
  have HS := Lib.hid (IdAt.start wp)
  obtain ⟨wa, hwa⟩ : ∃ wa, (wp.alloc (.cells #[.int .i64 0, .int .i64 0] 24)) = wa := ⟨_, rfl⟩
  rw [hwa] at HS
  have p0 : wp.cell? ⟨w.heap.size, 0, none⟩ = some (.int .i64 p.1) := by rw [← hwp]; exact World.cell?_alloc_new ..
  have p1 : wp.cell? ⟨w.heap.size, 1, none⟩ = some (.int .i64 p.2) := by rw [← hwp]; exact World.cell?_alloc_new ..
  have q0 := below_cell' HS.out.bel p0
  have q1 := below_cell' HS.out.bel p1
  have HK := Lib.hid (CKnown_nil r p wa)
  have HBP := Lib.hid hbp
  have HTWO : Hid (∀ w', IdAt wp w' → (w'.cell? ⟨wp.heap.size, 0, none⟩ = some (.int .i64 0) ∧ w'.cell? ⟨wp.heap.size, 1, none⟩ = some (.int .i64 0) ∧ ∀ j, w'.frozen? ⟨wp.heap.size, j, none⟩ = false) ∧ ∀ v0 v1, (∀ j (hj : j < [v0, v1].length), ((w'.setCell ⟨wp.heap.size, 0, none⟩ v0).setCell ⟨wp.heap.size, 1, none⟩ v1).cell? ⟨wp.heap.size, j, none⟩ = some [v0, v1][j]) ∧ Below w.heap.size w ((w'.setCell ⟨wp.heap.size, 0, none⟩ v0).setCell ⟨wp.heap.size, 1, none⟩ v1)) := Lib.hid (fun w' h => by
    exact ⟨⟨h.s0, h.s1, h.t⟩, fun v0 v1 => ⟨h.two v0 v1, HBP.out.trans ((h.end v0 v1).mono HBP.out.size)⟩⟩)
  clear hbp p0 p1
  go_enter Tryz.func10, Tryz.ntmps10
  go_wp2_with fail
  try rw [hwp]
  try rw [hwa]
  clear hwp hwa
  refine HK.out.mono ?_
  rintro _ w1 ⟨rfl, hb⟩
  unfold zeroMeth
  have hbx : Below w1.heap.size w1 (w1.alloc (.cells #[.string ⟨#[]⟩, .string ⟨#[]⟩, .int .i64 0, .int .i64 0, .int .i64 0, .slice none 0 0] 39)) := (Below.refl _ _).alloc (Nat.le_refl _) _
  have HS1 := Lib.hid (HS.out.next (hb.trans (hbx.mono hb.size)))
  obtain ⟨⟨s0, s1, st⟩, hfin⟩ := HTWO.out _ HS1.out
  have t0 := st 0
  have t1 := st 1
  have HFIN := Lib.hid hfin
  clear hb hbx HK HS q0 q1 HTWO hfin st
  go_wp2
  refine bodyPost_ret (results_cells_tmp rfl _ _ (wp.heap.size) [.int .i64 0, .int .i64 0] _ rfl (HFIN.out _ _).1 Tryz.underlying24 rfl id_info2) rfl ⟨rfl, (HFIN.out _ _).2⟩

theorem CInterface_nil (r : Int) (p : Int × Int) (w : World) : Calls Tryz.prog 11 #[.pointer none, .int .i64 r, .agg #[.int .i64 p.1, .int .i64 p.2]] w fun e w' => e = .returned (.tuple #[.agg #[.int .i64 0, .int .i64 0], .int .i64 2]) ∧ Below w.heap.size w w' := by
  obtain ⟨wp, hwp⟩ : ∃ wp, (w.alloc (.cells #[.int .i64 p.1, .int .i64 p.2] 24)) = wp := ⟨_, rfl⟩
  have hbp : Below w.heap.size w wp := by rw [← hwp]; exact (Below.refl _ _).alloc (Nat.le_refl _) _
  have HS := Lib.hid (IdAt.start wp)
  obtain ⟨wa, hwa⟩ : ∃ wa, (wp.alloc (.cells #[.int .i64 0, .int .i64 0] 24)) = wa := ⟨_, rfl⟩
  rw [hwa] at HS
  have p0 : wp.cell? ⟨w.heap.size, 0, none⟩ = some (.int .i64 p.1) := by rw [← hwp]; exact World.cell?_alloc_new ..
  have p1 : wp.cell? ⟨w.heap.size, 1, none⟩ = some (.int .i64 p.2) := by rw [← hwp]; exact World.cell?_alloc_new ..
  have q0 := below_cell' HS.out.bel p0
  have q1 := below_cell' HS.out.bel p1
  have HK := Lib.hid (CKnown_nil r p wa)
  have HBP := Lib.hid hbp
  have HTWO : Hid (∀ w', IdAt wp w' → (w'.cell? ⟨wp.heap.size, 0, none⟩ = some (.int .i64 0) ∧ w'.cell? ⟨wp.heap.size, 1, none⟩ = some (.int .i64 0) ∧ ∀ j, w'.frozen? ⟨wp.heap.size, j, none⟩ = false) ∧ ∀ v0 v1, (∀ j (hj : j < [v0, v1].length), ((w'.setCell ⟨wp.heap.size, 0, none⟩ v0).setCell ⟨wp.heap.size, 1, none⟩ v1).cell? ⟨wp.heap.size, j, none⟩ = some [v0, v1][j]) ∧ Below w.heap.size w ((w'.setCell ⟨wp.heap.size, 0, none⟩ v0).setCell ⟨wp.heap.size, 1, none⟩ v1)) := Lib.hid (fun w' h => by
    exact ⟨⟨h.s0, h.s1, h.t⟩, fun v0 v1 => ⟨h.two v0 v1, HBP.out.trans ((h.end v0 v1).mono HBP.out.size)⟩⟩)
  clear hbp p0 p1
  go_enter Tryz.func11, Tryz.ntmps11
  go_wp2_with fail
  try rw [hwp]
  try rw [hwa]
  clear hwp hwa
  refine HK.out.mono ?_
  rintro _ w1 ⟨rfl, hb⟩
  unfold zeroMeth
  have hbx : Below w1.heap.size w1 (w1.alloc (.cells #[.string ⟨#[]⟩, .string ⟨#[]⟩, .int .i64 0, .int .i64 0, .int .i64 0, .slice none 0 0] 39)) := (Below.refl _ _).alloc (Nat.le_refl _) _
  have HS1 := Lib.hid (HS.out.next (hb.trans (hbx.mono hb.size)))
  obtain ⟨⟨s0, s1, st⟩, hfin⟩ := HTWO.out _ HS1.out
  have t0 := st 0
  have t1 := st 1
  have HFIN := Lib.hid hfin
  clear hb hbx HK HS q0 q1 HTWO hfin st
  go_wp2
  refine bodyPost_ret (results_cells_tmp rfl _ _ (wp.heap.size) [.int .i64 0, .int .i64 0] _ rfl (HFIN.out _ _).1 Tryz.underlying24 rfl id_info2) rfl ⟨rfl, (HFIN.out _ _).2⟩

theorem CSpecial_nil (r : Int) (b0 : Bool) (b1 b2 b3 : ByteArray) (p : Int × Int) (w : World) : Calls Tryz.prog 12 #[.pointer none, .int .i64 r, .agg #[.bool b0, .string b1, .string b2, .string b3], .agg #[.int .i64 p.1, .int .i64 p.2]] w fun e w' => e = .returned (.tuple #[.agg #[.int .i64 0, .int .i64 0], .int .i64 2]) ∧ Below w.heap.size w w' := by
  obtain ⟨wp, hwp⟩ : ∃ wp, ((w.alloc (.cells #[.bool b0, .string b1, .string b2, .string b3] 30)).alloc (.cells #[.int .i64 p.1, .int .i64 p.2] 24)) = wp := ⟨_, rfl⟩
  have hbp : Below w.heap.size w wp := by rw [← hwp]; exact ((Below.refl _ _).alloc (Nat.le_refl _) _).alloc (by simp) _
  have HS := Lib.hid (IdAt.start wp)
  obtain ⟨wa, hwa⟩ : ∃ wa, (wp.alloc (.cells #[.int .i64 0, .int .i64 0] 24)) = wa := ⟨_, rfl⟩
  rw [hwa] at HS
  have p0 : wp.cell? ⟨w.heap.size + 1, 0, none⟩ = some (.int .i64 p.1) := by
    rw [← hwp]
    have := World.cell?_alloc_new (w.alloc (.cells #[.bool b0, .string b1, .string b2, .string b3] 30)) #[.int .i64 p.1, .int .i64 p.2] 24 0
    rw [World.size_alloc] at this
    exact this
  have p1 : wp.cell? ⟨w.heap.size + 1, 1, none⟩ = some (.int .i64 p.2) := by
    rw [← hwp]
    have := World.cell?_alloc_new (w.alloc (.cells #[.bool b0, .string b1, .string b2, .string b3] 30)) #[.int .i64 p.1, .int .i64 p.2] 24 1
    rw [World.size_alloc] at this
    exact this
  have q0 := below_cell' HS.out.bel p0
  have q1 := below_cell' HS.out.bel p1
  have HK := Lib.hid (CKnown_nil r p wa)
  have HBP := Lib.hid hbp
  have HTWO : Hid (∀ w', IdAt wp w' → (w'.cell? ⟨wp.heap.size, 0, none⟩ = some (.int .i64 0) ∧ w'.cell? ⟨wp.heap.size, 1, none⟩ = some (.int .i64 0) ∧ ∀ j, w'.frozen? ⟨wp.heap.size, j, none⟩ = false) ∧ ∀ v0 v1, (∀ j (hj : j < [v0, v1].length), ((w'.setCell ⟨wp.heap.size, 0, none⟩ v0).setCell ⟨wp.heap.size, 1, none⟩ v1).cell? ⟨wp.heap.size, j, none⟩ = some [v0, v1][j]) ∧ Below w.heap.size w ((w'.setCell ⟨wp.heap.size, 0, none⟩ v0).setCell ⟨wp.heap.size, 1, none⟩ v1)) := Lib.hid (fun w' h => by
    exact ⟨⟨h.s0, h.s1, h.t⟩, fun v0 v1 => ⟨h.two v0 v1, HBP.out.trans ((h.end v0 v1).mono HBP.out.size)⟩⟩)
  clear hbp p0 p1
  go_enter Tryz.func12, Tryz.ntmps12
  go_wp2_with fail
  try rw [hwp]
  try rw [hwa]
  clear hwp hwa
  refine HK.out.mono ?_
  rintro _ w1 ⟨rfl, hb⟩
  unfold zeroMeth
  have hbx : Below w1.heap.size w1 (w1.alloc (.cells #[.string ⟨#[]⟩, .string ⟨#[]⟩, .int .i64 0, .int .i64 0, .int .i64 0, .slice none 0 0] 39)) := (Below.refl _ _).alloc (Nat.le_refl _) _
  have HS1 := Lib.hid (HS.out.next (hb.trans (hbx.mono hb.size)))
  obtain ⟨⟨s0, s1, st⟩, hfin⟩ := HTWO.out _ HS1.out
  have t0 := st 0
  have t1 := st 1
  have HFIN := Lib.hid hfin
  clear hb hbx HK HS q0 q1 HTWO hfin st
  go_wp2
  refine bodyPost_ret (results_cells_tmp rfl _ _ (wp.heap.size) [.int .i64 0, .int .i64 0] _ rfl (HFIN.out _ _).1 Tryz.underlying24 rfl id_info2) rfl ⟨rfl, (HFIN.out _ _).2⟩

theorem CRecv_nil (d k : Int) (t1 : Int) (t2 : ByteArray) (w : World) : Calls Tryz.prog 37 #[.pointer none, .int .i64 d, .int .i64 k, .agg #[.int .i64 t1, .string t2]] w fun e w' => e = .returned (.int .i64 2) ∧ Below w.heap.size w w' := by
  have HB : Hid (Below w.heap.size w (w.alloc (.cells #[.int .i64 t1, .string t2] 33))) := Lib.hid ((Below.refl _ _).alloc (Nat.le_refl _) _)
  go_enter Tryz.func37, Tryz.ntmps37
  go_wp2
  go_ret
  exact ⟨rfl, HB.out⟩
theorem CCall_nil (r k : Int) (b0 : Bool) (b1 b2 b3 : ByteArray) (t1 : Int) (t2 : ByteArray) (w : World) : Calls Tryz.prog 13 #[.pointer none, .int .i64 r, .int .i64 k, .agg #[.bool b0, .string b1, .string b2, .string b3], .agg #[.int .i64 t1, .string t2]] w fun e w' => e = .returned (.tuple #[.agg #[.int .i64 0, .int .i64 0], .int .i64 2]) ∧ Below w.heap.size w w' := by
  obtain ⟨wp, hwp⟩ : ∃ wp, ((w.alloc (.cells #[.bool b0, .string b1, .string b2, .string b3] 30)).alloc (.cells #[.int .i64 t1, .string t2] 33)) = wp := ⟨_, rfl⟩
  have hbp : Below w.heap.size w wp := by rw [← hwp]; exact ((Below.refl _ _).alloc (Nat.le_refl _) _).alloc (by simp) _
  have HS := Lib.hid (IdAt.start wp)
  obtain ⟨wa, hwa⟩ : ∃ wa, (wp.alloc (.cells #[.int .i64 0, .int .i64 0] 24)) = wa := ⟨_, rfl⟩
  rw [hwa] at HS
  have p0 : wp.cell? ⟨w.heap.size + 1, 0, none⟩ = some (.int .i64 t1) := by
    rw [← hwp]
    have := World.cell?_alloc_new (w.alloc (.cells #[.bool b0, .string b1, .string b2, .string b3] 30)) #[.int .i64 t1, .string t2] 33 0
    rw [World.size_alloc] at this
    exact this
  have p1 : wp.cell? ⟨w.heap.size + 1, 1, none⟩ = some (.string t2) := by
    rw [← hwp]
    have := World.cell?_alloc_new (w.alloc (.cells #[.bool b0, .string b1, .string b2, .string b3] 30)) #[.int .i64 t1, .string t2] 33 1
    rw [World.size_alloc] at this
    exact this
  have q0 := below_cell' HS.out.bel p0
  have q1 := below_cell' HS.out.bel p1
  have HK := Lib.hid (CRecv_nil r k t1 t2 wa)
  have HBP := Lib.hid hbp
  have HTWO : Hid (∀ w', IdAt wp w' → (w'.cell? ⟨wp.heap.size, 0, none⟩ = some (.int .i64 0) ∧ w'.cell? ⟨wp.heap.size, 1, none⟩ = some (.int .i64 0) ∧ ∀ j, w'.frozen? ⟨wp.heap.size, j, none⟩ = false) ∧ ∀ v0 v1, (∀ j (hj : j < [v0, v1].length), ((w'.setCell ⟨wp.heap.size, 0, none⟩ v0).setCell ⟨wp.heap.size, 1, none⟩ v1).cell? ⟨wp.heap.size, j, none⟩ = some [v0, v1][j]) ∧ Below w.heap.size w ((w'.setCell ⟨wp.heap.size, 0, none⟩ v0).setCell ⟨wp.heap.size, 1, none⟩ v1)) := Lib.hid (fun w' h => by
    exact ⟨⟨h.s0, h.s1, h.t⟩, fun v0 v1 => ⟨h.two v0 v1, HBP.out.trans ((h.end v0 v1).mono HBP.out.size)⟩⟩)
  clear hbp p0 p1
  go_enter Tryz.func13, Tryz.ntmps13
  go_wp2_with fail
  try rw [hwp]
  try rw [hwa]
  clear hwp hwa
  refine HK.out.mono ?_
  rintro _ w1 ⟨rfl, hb⟩
  have HS1 := Lib.hid (HS.out.next hb)
  obtain ⟨⟨s0, s1, st⟩, hfin⟩ := HTWO.out w1 HS1.out
  have t0 := st 0
  have t1 := st 1
  have HFIN := Lib.hid hfin
  clear hb HK HS q0 q1 HTWO hfin st
  go_wp2
  refine bodyPost_ret (results_cells_tmp rfl _ _ (wp.heap.size) [.int .i64 0, .int .i64 0] _ rfl (HFIN.out _ _).1 Tryz.underlying24 rfl id_info2) rfl ⟨rfl, (HFIN.out _ _).2⟩

/-- ChooseNil. -/
theorem ChooseNil (w : World) (he : Lf.Env w) : Calls Tryz.prog 3 #[] w fun r w' => r = .returned (.bool true) ∧ Below w.heap.size w w' := by
  go_enter Tryz.func3, Tryz.ntmps3
  go_wp2_with fail
  refine (awake12 w).mono ?_
  rintro _ w1 ⟨rfl, hb⟩
  have HB1 := Lib.hid hb
  clear hb
  go_wp2_with fail
  refine (CVirtual_nil 0 (0, 0) w1).mono ?_
  rintro _ w2 ⟨rfl, hb⟩
  have HB2 : Hid (Below w.heap.size w (w2.alloc (.cells #[.int .i64 0, .int .i64 0] 24))) := Lib.hid ((HB1.out.trans (hb.mono HB1.out.size)).alloc (Nat.le_trans HB1.out.size hb.size) _)
  clear hb HB1
  go_wp2_with fail
  refine (CInterface_nil 0 (0, 0) _).mono ?_
  rintro _ w3 ⟨rfl, hb⟩
  have HB3 : Hid (Below w.heap.size w (w3.alloc (.cells #[.int .i64 0, .int .i64 0] 24))) := Lib.hid ((HB2.out.trans (hb.mono HB2.out.size)).alloc (Nat.le_trans HB2.out.size hb.size) _)
  clear hb HB2
  go_wp2_with fail
  refine (CSpecial_nil 0 _ _ _ _ (0, 0) _).mono ?_
  rintro _ w4 ⟨rfl, hb⟩
  have HB4 : Hid (Below w.heap.size w (w4.alloc (.cells #[.int .i64 0, .int .i64 0] 24))) := Lib.hid ((HB3.out.trans (hb.mono HB3.out.size)).alloc (Nat.le_trans HB3.out.size hb.size) _)
  clear hb HB3
  go_wp2_with fail
  refine (CCall_nil 0 1 _ _ _ _ _ _ _).mono ?_
  rintro _ w5 ⟨rfl, hb⟩
  have HB5 : Hid (Below w.heap.size w (w5.alloc (.cells #[.int .i64 0, .int .i64 0] 24))) := Lib.hid ((HB4.out.trans (hb.mono HB4.out.size)).alloc (Nat.le_trans HB4.out.size hb.size) _)
  clear hb HB4
  go_wp2
  go_ret
  exact ⟨rfl, HB5.out⟩
end Go.Proofs.YtiiebakblkpkeaaGreatDoor.Hi
