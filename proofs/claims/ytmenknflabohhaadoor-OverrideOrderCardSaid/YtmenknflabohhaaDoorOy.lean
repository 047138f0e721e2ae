/- OverrideOrder: the walk. -/
import Derived.Test.YtmenknflabohhaaDoorOi
import Derived.Test.YtmenknflabohhaaDoorOp2
set_option maxRecDepth 100000
set_option maxHeartbeats 8000000
set_option linter.unusedVariables false
set_option linter.unusedSimpArgs false
namespace Go.Proofs.YtmenknflabohhaaDoor.Hi
open Go.RowKit Bs

/-- Three methods' places. -/
structure ThreeAt (w w1 : World) (a b c : Int × Int) : Prop where
  a0 : w1.cell? ⟨w.heap.size, 0, none⟩ = some (.int .i64 a.1)
  a1 : w1.cell? ⟨w.heap.size, 1, none⟩ = some (.int .i64 a.2)
  b0 : w1.cell? ⟨w.heap.size + 1, 0, none⟩ = some (.int .i64 b.1)
  b1 : w1.cell? ⟨w.heap.size + 1, 1, none⟩ = some (.int .i64 b.2)
  c0 : w1.cell? ⟨w.heap.size + 1 + 1, 0, none⟩ = some (.int .i64 c.1)
  c1 : w1.cell? ⟨w.heap.size + 1 + 1, 1, none⟩ = some (.int .i64 c.2)
  bel : Below w.heap.size w w1
theorem ThreeAt.start (w : World) (a b c : Int × Int) : ThreeAt w (((w.alloc (.cells #[.int .i64 a.1, .int .i64 a.2] 24)).alloc (.cells #[.int .i64 b.1, .int .i64 b.2] 24)).alloc (.cells #[.int .i64 c.1, .int .i64 c.2] 24)) a b c :=
  ⟨alloc_old (alloc_old (World.cell?_alloc_new ..)), alloc_old (alloc_old (World.cell?_alloc_new ..)), alloc_old (alloc_atO (by simp) _ _ rfl), alloc_old (alloc_atO (by simp) _ _ rfl), alloc_atO (by simp) _ _ rfl, alloc_atO (by simp) _ _ rfl, (((Below.refl _ _).alloc (Nat.le_refl _) _).alloc (by simp) _).alloc (by simp; omega) _⟩
theorem ThreeAt.next {w w1 w2 : World} {a b c : Int × Int} (h : ThreeAt w w1 a b c) (hb : Below w1.heap.size w1 w2) : ThreeAt w w2 a b c :=
  ⟨below_cell' hb h.a0, below_cell' hb h.a1, below_cell' hb h.b0, below_cell' hb h.b1, below_cell' hb h.c0, below_cell' hb h.c1, h.bel.trans (hb.mono h.bel.size)⟩

theorem OverrideOrder (a : Option Addr) (cp : Nat) (xs : List ClsM) (p q r : Int × Int) (w : World) (hx : ClsSl (fun b => b < w.heap.size) w (.slice a xs.length cp) xs) (he : Lf.Env w) :
    Calls Tryd.prog 3 #[.slice a xs.length cp, .agg #[.int .i64 p.1, .int .i64 p.2], .agg #[.int .i64 q.1, .int .i64 q.2], .agg #[.int .i64 r.1, .int .i64 r.2]] w fun e w' => e = .returned (.bool true) ∧ Below w.heap.size w w' := by
  have HT0 := Lib.hid (ThreeAt.start w p q r)
  obtain ⟨wa, hwa⟩ : ∃ wa, (((w.alloc (.cells #[.int .i64 p.1, .int .i64 p.2] 24)).alloc (.cells #[.int .i64 q.1, .int .i64 q.2] 24)).alloc (.cells #[.int .i64 r.1, .int .i64 r.2] 24)) = wa := ⟨_, rfl⟩
  rw [hwa] at HT0
  have HX := Lib.hid (hx.nextO HT0.out.bel)
  have HE := Lib.hid (he.below HT0.out.bel)
  have HAW := Lib.hid (awake09 wa)
  clear hx he
  go_enter Tryd.func3, Tryd.ntmps3
  go_wp2_with fail
  try rw [hwa]
  clear hwa
  refine HAW.out.mono ?_
  rintro e w1 ⟨rfl, hb⟩
  have HT1 := Lib.hid (HT0.out.next hb)
  have HBU := Lib.hid (built09 a cp xs w1 (HX.out.nextO hb) (HE.out.below hb))
  clear hb HT0 HX HE HAW
  go_wp2_with fail
  refine HBU.out.mono ?_
  rintro e w2 ⟨rfl, h2⟩
  have H2 := Lib.hid h2
  have HT2 := Lib.hid (HT1.out.next h2.below)
  clear h2 HBU HT1
  generalize w1.heap.size = B at H2
  generalize defs xs = m at H2
  have HWF := Lib.hid H2.out.wf
  have HO := Lib.hid H2.out.ord
  have HM := Lib.hid (fun wr (hr : Below w2.heap.size w2 wr) s => MethodAny (H2.out.next hr) s)
  have HV := Lib.hid (fun wr (hr : Below w2.heap.size w2 wr) s t => OOverrides (H2.out.next hr) s t)
  have t0 := HT2.out.a0
  have t1 := HT2.out.a1
  have HMX := Lib.hid (HM.out w2 (Below.refl _ _) p)
  go_wp2_with fail
  refine HMX.out.mono ?_
  rintro e w3 ⟨n1, d1, f1, l1, s1, ad1, q1, c1, er1, rfl, g1, k1, hb⟩
  obtain ⟨wx, hwx⟩ : ∃ wx, (w3.alloc (.cells #[.string n1, .string d1, .int .i64 f1, .int .i64 l1, .int .i64 s1, .slice ad1 q1 c1] 30)) = wx := ⟨_, rfl⟩
  have hbx : Below w3.heap.size w3 wx := by rw [← hwx]; exact (Below.refl _ _).alloc (Nat.le_refl _) _
  have x0 : wx.cell? ⟨w3.heap.size, 0, none⟩ = some (.string n1) := by rw [← hwx]; exact World.cell?_alloc_new ..
  have x1 : wx.cell? ⟨w3.heap.size, 1, none⟩ = some (.string d1) := by rw [← hwx]; exact World.cell?_alloc_new ..
  have x2 : wx.cell? ⟨w3.heap.size, 2, none⟩ = some (.int .i64 f1) := by rw [← hwx]; exact World.cell?_alloc_new ..
  have hb3 := hb.trans (hbx.mono hb.size)
  have HB3 := Lib.hid hb3
  have HT3 := Lib.hid (HT2.out.next hb3)
  have G1 := Lib.hid g1
  have K1 := Lib.hid k1
  have u0 := HT3.out.b0
  have u1 := HT3.out.b1
  have HMY := Lib.hid (HM.out wx hb3 q)
  clear hb hbx hb3 g1 k1 HMX t0 t1 HT2
  go_wp2_with fail
  try rw [hwx]
  clear hwx
  refine HMY.out.mono ?_
  rintro e w4 ⟨n2, d2, f2, l2, s2, ad2, q2, c2, er2, rfl, g2, k2, hb⟩
  obtain ⟨wy, hwy⟩ : ∃ wy, (w4.alloc (.cells #[.string n2, .string d2, .int .i64 f2, .int .i64 l2, .int .i64 s2, .slice ad2 q2 c2] 30)) = wy := ⟨_, rfl⟩
  have hby : Below w4.heap.size w4 wy := by rw [← hwy]; exact (Below.refl _ _).alloc (Nat.le_refl _) _
  have y0 : wy.cell? ⟨w4.heap.size, 0, none⟩ = some (.string n2) := by rw [← hwy]; exact World.cell?_alloc_new ..
  have y1 : wy.cell? ⟨w4.heap.size, 1, none⟩ = some (.string d2) := by rw [← hwy]; exact World.cell?_alloc_new ..
  have hb4 := hb.trans (hby.mono hb.size)
  have HB4 := Lib.hid (HB3.out.trans (hb4.mono HB3.out.size))
  have HT4 := Lib.hid (HT3.out.next hb4)
  have X0 := Lib.hid (below_cell' hb4 x0)
  have X1 := Lib.hid (below_cell' hb4 x1)
  have X2 := Lib.hid (below_cell' hb4 x2)
  have Y0 := Lib.hid y0
  have Y1 := Lib.hid y1
  have G2 := Lib.hid g2
  have K2 := Lib.hid k2
  have v0 := HT4.out.c0
  have v1 := HT4.out.c1
  have HMZ := Lib.hid (HM.out wy HB4.out r)
  clear hb hby hb4 g2 k2 HMY u0 u1 HT3 x0 x1 x2 y0 y1 HB3 HM
  go_wp2_with fail
  try rw [hwy]
  clear hwy
  refine HMZ.out.mono ?_
  rintro e w5 ⟨n3, d3, f3, l3, s3, ad3, q3, c3, er3, rfl, g3, k3, hb⟩
  obtain ⟨wz, hwz⟩ : ∃ wz, (w5.alloc (.cells #[.string n3, .string d3, .int .i64 f3, .int .i64 l3, .int .i64 s3, .slice ad3 q3 c3] 30)) = wz := ⟨_, rfl⟩
  have hbz : Below w5.heap.size w5 wz := by rw [← hwz]; exact (Below.refl _ _).alloc (Nat.le_refl _) _
  have hb5 := hb.trans (hbz.mono hb.size)
  have HB5 := Lib.hid (HB4.out.trans (hb5.mono HB4.out.size))
  have HT5 := Lib.hid (HT4.out.next hb5)
  have X0' := Lib.hid (below_cell' hb5 X0.out)
  have X1' := Lib.hid (below_cell' hb5 X1.out)
  have X2' := Lib.hid (below_cell' hb5 X2.out)
  have Y0' := Lib.hid (below_cell' hb5 Y0.out)
  have Y1' := Lib.hid (below_cell' hb5 Y1.out)
  have G3 := Lib.hid g3
  have K3 := Lib.hid k3
  have t0 := HT5.out.a0
  have t1 := HT5.out.a1
  have u0 := HT5.out.b0
  have u1 := HT5.out.b1
  have HAB := Lib.hid (HV.out wz HB5.out p q)
  have HER := Lib.hid (ovR_err m p q)
  clear hb hbz hb5 g3 k3 HMZ v0 v1 HT4 X0 X1 X2 Y0 Y1 HB4
  obtain ⟨ab, hab⟩ : ∃ ab, (ovR m p q).1 = ab := ⟨_, rfl⟩
  obtain ⟨eab, heab⟩ : ∃ eab, (ovR m p q).2 = eab := ⟨_, rfl⟩
  have HABV := Lib.hid hab
  have HEAB := Lib.hid heab
  rw [hab, heab] at HAB
  rw [heab] at HER
  clear hab heab
  go_wp2_with fail
  try rw [hwz]
  clear hwz
  refine HAB.out.mono ?_
  rintro e w6 ⟨rfl, hb⟩
  have HB6 := Lib.hid (HB5.out.trans (hb.mono HB5.out.size))
  have HT6 := Lib.hid (HT5.out.next hb)
  have X0 := Lib.hid (below_cell' hb X0'.out)
  have X1 := Lib.hid (below_cell' hb X1'.out)
  have X2 := Lib.hid (below_cell' hb X2'.out)
  have Y0 := Lib.hid (below_cell' hb Y0'.out)
  have Y1 := Lib.hid (below_cell' hb Y1'.out)
  clear hb HT5 HB5 HAB X0' X1' X2' Y0' Y1' t0 t1 u0 u1
  by_cases z : er1 = 0 ∧ er2 = 0 ∧ er3 = 0
  case neg =>
    have HBF := Lib.hid HT6.out.bel
    have hneg : er1 ≠ 0 ∨ (er1 = 0 ∧ er2 ≠ 0) ∨ (er1 = 0 ∧ er2 = 0 ∧ er3 ≠ 0) := by omega
    clear z G1 G2 G3 K1 K2 K3 HABV HEAB HT6 X0 X1 X2 Y0 Y1 HV HWF HO H2 HB6
    have h3 : eab = 0 ∨ eab = 3 := HER.out
    rcases hneg with z | ⟨rfl, z⟩ | ⟨rfl, rfl, z⟩
    all_goals
      rcases h3 with rfl | rfl
    · have z' : (er1 != 0) = true := by simpa using z
      clear z
      go_wp2
      go_ret
      exact ⟨rfl, HBF.out⟩
    · have z' : (er1 != 0) = true := by simpa using z
      clear z
      go_wp2
      go_ret
      exact ⟨rfl, HBF.out⟩
    · have z' : (er2 != 0) = true := by simpa using z
      clear z
      go_wp2
      go_ret
      exact ⟨rfl, HBF.out⟩
    · have z' : (er2 != 0) = true := by simpa using z
      clear z
      go_wp2
      go_ret
      exact ⟨rfl, HBF.out⟩
    · have z' : (er3 != 0) = true := by simpa using z
      clear z
      go_wp2
      go_ret
      exact ⟨rfl, HBF.out⟩
    · have z' : (er3 != 0) = true := by simpa using z
      clear z
      go_wp2
      go_ret
      exact ⟨rfl, HBF.out⟩
  obtain ⟨rfl, rfl, rfl⟩ := z
  obtain ⟨x, hx, rfl, rfl, rfl⟩ := G1.out rfl
  obtain ⟨y, hy, rfl, rfl, rfl⟩ := G2.out rfl
  obtain ⟨zz, hz, _, _, _⟩ := G3.out rfl
  have e1 : ab = ovM m p q y := by rw [← HABV.out, ovR_ok hy hx]
  have e2 : eab = 0 := by rw [← HEAB.out, ovR_ok hy hx]
  subst e2
  have HBC := Lib.hid (fun wr (hr : Below w2.heap.size w2 wr) => (by have := HV.out wr hr q r; rw [ovR_ok hz hy] at this; exact this : Calls Tryd.prog 7 #[.pointer (some ⟨B + 1, 0, none⟩), .agg #[.int .i64 q.1, .int .i64 q.2], .agg #[.int .i64 r.1, .int .i64 r.2]] wr fun e w' => e = .returned (.tuple #[.bool (ovM m q r zz), .int .i64 0]) ∧ Below wr.heap.size wr w'))
  have HAC := Lib.hid (fun wr (hr : Below w2.heap.size w2 wr) => (by have := HV.out wr hr p r; rw [ovR_ok hz hx] at this; exact this : Calls Tryd.prog 7 #[.pointer (some ⟨B + 1, 0, none⟩), .agg #[.int .i64 p.1, .int .i64 p.2], .agg #[.int .i64 r.1, .int .i64 r.2]] wr fun e w' => e = .returned (.tuple #[.bool (ovM m p r zz), .int .i64 0]) ∧ Below wr.heap.size wr w'))
  have HBA := Lib.hid (fun wr (hr : Below w2.heap.size w2 wr) => (by have := HV.out wr hr q p; rw [ovR_ok hx hy] at this; exact this : Calls Tryd.prog 7 #[.pointer (some ⟨B + 1, 0, none⟩), .agg #[.int .i64 q.1, .int .i64 q.2], .agg #[.int .i64 p.1, .int .i64 p.2]] wr fun e w' => e = .returned (.tuple #[.bool (ovM m q p x), .int .i64 0]) ∧ Below wr.heap.size wr w'))
  have EST : ovM m p p x = (bits .and .i64 x.flags 8 == 0) := by
    rw [ov_refl HWF.out hx]
    unfold statF
    rw [bne, Bool.not_not]
  have HAA := Lib.hid (fun wr (hr : Below w2.heap.size w2 wr) => (by have := HV.out wr hr p p; rw [ovR_ok hx hx, EST] at this; exact this : Calls Tryd.prog 7 #[.pointer (some ⟨B + 1, 0, none⟩), .agg #[.int .i64 p.1, .int .i64 p.2], .agg #[.int .i64 p.1, .int .i64 p.2]] wr fun e w' => e = .returned (.tuple #[.bool (bits .and .i64 x.flags 8 == 0), .int .i64 0]) ∧ Below wr.heap.size wr w'))
  have HPL : Hid (∀ wr (hr : Below w2.heap.size w2 wr), Calls Tryd.prog 9 #[.pointer (some ⟨B + 1, 0, none⟩), .agg #[.int .i64 p.1, .int .i64 p.2], .agg #[.int .i64 q.1, .int .i64 q.2]] wr fun e w' => e = .returned (.tuple #[.bool (plainM m p q y), .int .i64 0]) ∧ Below wr.heap.size wr w') := Lib.hid (fun wr hr => by
    obtain ⟨i, j, hi, hj, rfl, rfl⟩ := methAt_some hy
    obtain ⟨k, l, hk, hl, rfl, _⟩ := methAt_some hx
    exact OPlain (H2.out.next hr) hi hj hk hl)
  have HEX := Lib.hid (fun wr (hr : Below w2.heap.size w2 wr) => (H2.out.next hr).extends p.1 q.1)
  have T1 : Hid (ab = true → ovM m q r zz = true → ovM m p r zz = true) := Lib.hid (by rw [e1]; exact ov_trans HWF.out HO.out hx hy hz)
  have T2 : Hid (ab = true → ovM m q p x = true → p = q) := Lib.hid (by rw [e1]; exact ov_anti HWF.out HO.out hy hx)
  have T3 : Hid (plainM m p q y = true → ab = true) := Lib.hid (by rw [e1]; exact plain_ov HWF.out HO.out hx hy)
  have T4 : Hid (ab = true → x.name = y.name ∧ x.desc = y.desc ∧ extM m p.1 q.1 = true) := Lib.hid (by rw [e1]; intro h; exact ov_names HWF.out HO.out h hy hx)
  generalize ovM m q r zz = bc at HBC T1
  generalize ovM m p r zz = ac at HAC T1
  generalize ovM m q p x = ba at HBA T2
  generalize plainM m p q y = pl at HPL T3
  generalize extM m p.1 q.1 = ex at HEX T4
  obtain ⟨sb, hsb⟩ : ∃ sb, (bits .and .i64 x.flags 8 == 0) = sb := ⟨_, rfl⟩
  rw [hsb] at HAA
  clear G1 G2 G3 K1 K2 K3 HER HABV HEAB hx hy hz e1 EST HV HWF HO H2
  have t0 := HT6.out.b0
  have t1 := HT6.out.b1
  have u0 := HT6.out.c0
  have u1 := HT6.out.c1
  have HX := Lib.hid (HBC.out w6 HB6.out)
  go_wp2_with fail
  refine HX.out.mono ?_
  rintro e w7 ⟨rfl, hb⟩
  have HB7 := Lib.hid (HB6.out.trans (hb.mono HB6.out.size))
  have HT7 := Lib.hid (HT6.out.next hb)
  have X0' := Lib.hid (below_cell' hb X0.out)
  have X1' := Lib.hid (below_cell' hb X1.out)
  have X2' := Lib.hid (below_cell' hb X2.out)
  have Y0' := Lib.hid (below_cell' hb Y0.out)
  have Y1' := Lib.hid (below_cell' hb Y1.out)
  clear hb HX HBC HT6 HB6 t0 t1 u0 u1 X0 X1 X2 Y0 Y1
  have t0 := HT7.out.a0
  have t1 := HT7.out.a1
  have u0 := HT7.out.c0
  have u1 := HT7.out.c1
  have HX := Lib.hid (HAC.out w7 HB7.out)
  go_wp2_with fail
  refine HX.out.mono ?_
  rintro e w8 ⟨rfl, hb⟩
  have HB8 := Lib.hid (HB7.out.trans (hb.mono HB7.out.size))
  have HT8 := Lib.hid (HT7.out.next hb)
  have X0 := Lib.hid (below_cell' hb X0'.out)
  have X1 := Lib.hid (below_cell' hb X1'.out)
  have X2 := Lib.hid (below_cell' hb X2'.out)
  have Y0 := Lib.hid (below_cell' hb Y0'.out)
  have Y1 := Lib.hid (below_cell' hb Y1'.out)
  clear hb HX HAC HT7 HB7 t0 t1 u0 u1 X0' X1' X2' Y0' Y1'
  have t0 := HT8.out.a0
  have t1 := HT8.out.a1
  have u0 := HT8.out.b0
  have u1 := HT8.out.b1
  have HX := Lib.hid (HBA.out w8 HB8.out)
  go_wp2_with fail
  refine HX.out.mono ?_
  rintro e w9 ⟨rfl, hb⟩
  have HB9 := Lib.hid (HB8.out.trans (hb.mono HB8.out.size))
  have HT9 := Lib.hid (HT8.out.next hb)
  have X0' := Lib.hid (below_cell' hb X0.out)
  have X1' := Lib.hid (below_cell' hb X1.out)
  have X2' := Lib.hid (below_cell' hb X2.out)
  have Y0' := Lib.hid (below_cell' hb Y0.out)
  have Y1' := Lib.hid (below_cell' hb Y1.out)
  clear hb HX HBA HT8 HB8 t0 t1 u0 u1 X0 X1 X2 Y0 Y1
  have t0 := HT9.out.a0
  have t1 := HT9.out.a1
  have HX := Lib.hid (HAA.out w9 HB9.out)
  go_wp2_with fail
  refine HX.out.mono ?_
  rintro e w10 ⟨rfl, hb⟩
  have HB10 := Lib.hid (HB9.out.trans (hb.mono HB9.out.size))
  have HT10 := Lib.hid (HT9.out.next hb)
  have X0 := Lib.hid (below_cell' hb X0'.out)
  have X1 := Lib.hid (below_cell' hb X1'.out)
  have X2 := below_cell' hb X2'.out
  have Y0 := Lib.hid (below_cell' hb Y0'.out)
  have Y1 := Lib.hid (below_cell' hb Y1'.out)
  clear hb HX HAA HT9 HB9 t0 t1 X0' X1' X2' Y0' Y1'
  have t0 := HT10.out.a0
  have t1 := HT10.out.a1
  have u0 := HT10.out.b0
  have u1 := HT10.out.b1
  have HPX := Lib.hid (HPL.out w10 HB10.out)
  have HPY := Lib.hid (fun wr (hr : Below w10.heap.size w10 wr) => HPL.out wr (HB10.out.trans (hr.mono HB10.out.size)))
  clear HPL
  cases ab
  · have hpl : pl = false := by
      cases pl
      · rfl
      · exact absurd (T3.out rfl) (by decide)
    subst hpl
    clear T1 T2 T3 T4 HPY
    go_wp2_with fail
    refine HPX.out.mono ?_
    rintro e w11 ⟨rfl, hb⟩
    have HBF := Lib.hid (HT10.out.next hb).bel
    clear hb HPX HT10 HB10 t0 t1 u0 u1
    go_wp2
    go_ret
    exact ⟨rfl, HBF.out⟩
  · obtain ⟨hn, hd, hex⟩ := T4.out rfl
    rw [hex] at HEX
    rw [← hn] at Y0
    rw [← hd] at Y1
    have hac : bc = true → ac = true := T1.out rfl
    have hba : ba = true → p = q := T2.out rfl
    clear T1 T2 T3 T4 hex hn hd HPX
    generalize x.name = nx at X0 Y0
    generalize x.desc = dx at X1 Y1
    have HAC2 : Hid ((bc && !ac) = false) := Lib.hid (by
      cases bc
      · rfl
      · rw [hac rfl]; rfl)
    clear hac
    cases ba
    · have HTX := HT10
      have HBX := HB10
      have XX0 := X0
      have XX1 := X1
      have YY0 := Y0
      have YY1 := Y1
      have HPZ := Lib.hid (HPY.out w10 (Below.refl _ _))
      clear HT10 HB10 X0 X1 Y0 Y1 HPY hba
      cases bc
      · clear HAC2
        go_wp2_with fail
        refine HPZ.out.mono ?_
        rintro e w12 ⟨rfl, hb⟩
        have HT12 := Lib.hid (HTX.out.next hb)
        have HB12 := Lib.hid (HBX.out.trans (hb.mono HBX.out.size))
        have x0 := below_cell' hb XX0.out
        have x1 := below_cell' hb XX1.out
        have y0 := below_cell' hb YY0.out
        have y1 := below_cell' hb YY1.out
        have s0 := HT12.out.a0
        have s1 := HT12.out.b0
        have HEY := Lib.hid (HEX.out w12 HB12.out)
        clear hb HTX HBX XX0 XX1 YY0 YY1 HEX
        cases pl
        all_goals
          go_wp2_with fail
          refine HEY.out.mono ?_
          rintro e w13 ⟨rfl, hb⟩
          have HBF := Lib.hid (HT12.out.next hb).bel
          clear hb HEY
          go_wp2
          go_ret
          exact ⟨rfl, HBF.out⟩
      · have hac : ac = true := by simpa using HAC2.out
        subst hac
        clear HAC2
        go_wp2_with fail
        refine HPZ.out.mono ?_
        rintro e w12 ⟨rfl, hb⟩
        have HT12 := Lib.hid (HTX.out.next hb)
        have HB12 := Lib.hid (HBX.out.trans (hb.mono HBX.out.size))
        have x0 := below_cell' hb XX0.out
        have x1 := below_cell' hb XX1.out
        have y0 := below_cell' hb YY0.out
        have y1 := below_cell' hb YY1.out
        have s0 := HT12.out.a0
        have s1 := HT12.out.b0
        have HEY := Lib.hid (HEX.out w12 HB12.out)
        clear hb HTX HBX XX0 XX1 YY0 YY1 HEX
        cases pl
        all_goals
          go_wp2_with fail
          refine HEY.out.mono ?_
          rintro e w13 ⟨rfl, hb⟩
          have HBF := Lib.hid (HT12.out.next hb).bel
          clear hb HEY
          go_wp2
          go_ret
          exact ⟨rfl, HBF.out⟩
    · have hpq := hba rfl
      have HSI : Hid (Calls Tryd.prog 8 #[.agg #[.int .i64 p.1, .int .i64 p.2], .agg #[.int .i64 q.1, .int .i64 q.2]] w10 fun e w' => e = .returned (.bool true) ∧ Below w10.heap.size w10 w') := Lib.hid (by
        have := RID p.1 p.2 q.1 q.2 w10
        rw [hpq] at this ⊢
        simpa using this)
      clear hba hpq
      cases bc
      · clear HAC2
        go_wp2_with fail
        refine HSI.out.mono ?_
        rintro e w11 ⟨rfl, hb⟩
        have HTX := Lib.hid (HT10.out.next hb)
        have HBX := Lib.hid (HB10.out.trans (hb.mono HB10.out.size))
        have XX0 := Lib.hid (below_cell' hb X0.out)
        have XX1 := Lib.hid (below_cell' hb X1.out)
        have YY0 := Lib.hid (below_cell' hb Y0.out)
        have YY1 := Lib.hid (below_cell' hb Y1.out)
        have HPZ := Lib.hid (HPY.out w11 hb)
        have t0 := HTX.out.a0
        have t1 := HTX.out.a1
        have u0 := HTX.out.b0
        have u1 := HTX.out.b1
        clear hb HT10 HB10 X0 X1 Y0 Y1 HPY HSI
        go_wp2_with fail
        refine HPZ.out.mono ?_
        rintro e w12 ⟨rfl, hb⟩
        have HT12 := Lib.hid (HTX.out.next hb)
        have HB12 := Lib.hid (HBX.out.trans (hb.mono HBX.out.size))
        have x0 := below_cell' hb XX0.out
        have x1 := below_cell' hb XX1.out
        have y0 := below_cell' hb YY0.out
        have y1 := below_cell' hb YY1.out
        have s0 := HT12.out.a0
        have s1 := HT12.out.b0
        have HEY := Lib.hid (HEX.out w12 HB12.out)
        clear hb HTX HBX XX0 XX1 YY0 YY1 HEX
        cases pl
        all_goals
          go_wp2_with fail
          refine HEY.out.mono ?_
          rintro e w13 ⟨rfl, hb⟩
          have HBF := Lib.hid (HT12.out.next hb).bel
          clear hb HEY
          go_wp2
          go_ret
          exact ⟨rfl, HBF.out⟩
      · have hac : ac = true := by simpa using HAC2.out
        subst hac
        clear HAC2
        go_wp2_with fail
        refine HSI.out.mono ?_
        rintro e w11 ⟨rfl, hb⟩
        have HTX := Lib.hid (HT10.out.next hb)
        have HBX := Lib.hid (HB10.out.trans (hb.mono HB10.out.size))
        have XX0 := Lib.hid (below_cell' hb X0.out)
        have XX1 := Lib.hid (below_cell' hb X1.out)
        have YY0 := Lib.hid (below_cell' hb Y0.out)
        have YY1 := Lib.hid (below_cell' hb Y1.out)
        have HPZ := Lib.hid (HPY.out w11 hb)
        have t0 := HTX.out.a0
        have t1 := HTX.out.a1
        have u0 := HTX.out.b0
        have u1 := HTX.out.b1
        clear hb HT10 HB10 X0 X1 Y0 Y1 HPY HSI
        go_wp2_with fail
        refine HPZ.out.mono ?_
        rintro e w12 ⟨rfl, hb⟩
        have HT12 := Lib.hid (HTX.out.next hb)
        have HB12 := Lib.hid (HBX.out.trans (hb.mono HBX.out.size))
        have x0 := below_cell' hb XX0.out
        have x1 := below_cell' hb XX1.out
        have y0 := below_cell' hb YY0.out
        have y1 := below_cell' hb YY1.out
        have s0 := HT12.out.a0
        have s1 := HT12.out.b0
        have HEY := Lib.hid (HEX.out w12 HB12.out)
        clear hb HTX HBX XX0 XX1 YY0 YY1 HEX
        cases pl
        all_goals
          go_wp2_with fail
          refine HEY.out.mono ?_
          rintro e w13 ⟨rfl, hb⟩
          have HBF := Lib.hid (HT12.out.next hb).bel
          clear hb HEY
          go_wp2
          go_ret
          exact ⟨rfl, HBF.out⟩
end Go.Proofs.YtmenknflabohhaaDoor.Hi
