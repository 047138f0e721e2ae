/- ResolveKin: the walk. -/
import Derived.Test.YtmpphhkbjmjomaaGreatDoorUh
set_option maxRecDepth 100000
set_option maxHeartbeats 4000000
set_option linter.unusedVariables false
set_option linter.unusedSimpArgs false
namespace Go.Proofs.YtmpphhkbjmjomaaGreatDoor.Hi
open Go.RowKit Bs

theorem ResolveKin (a : Option Addr) (cp : Nat) (xs : List ClsM) (d : Int) (hd : (Lit.int .i64 d).wf = true) (g : Int) (hg : (Lit.int .i64 g).wf = true) (r : RefM) (w : World) (hx : ClsSl (fun b => b < w.heap.size) w (.slice a xs.length cp) xs) (hr : r.cls.size ≤ maxLen ∧ r.name.size ≤ maxLen ∧ r.desc.size ≤ maxLen) (he : Lf.Env w) :
    Calls Tryz.prog 5 #[.slice a xs.length cp, .int .i64 d, .int .i64 g, .agg #[.bool r.iface, .string r.cls, .string r.name, .string r.desc]] w fun e w' => e = .returned (.bool true) ∧ Below w.heap.size w w' := by
  have HRS := Lib.hid hr
  have HR0 := Lib.hid (RefAt.start w r)
  obtain ⟨wa, hwa⟩ : ∃ wa, (w.alloc (.cells #[.bool r.iface, .string r.cls, .string r.name, .string r.desc] 24)) = wa := ⟨_, rfl⟩
  have hba : Below w.heap.size w wa := by rw [← hwa]; exact (Below.refl _ _).alloc (Nat.le_refl _) _
  rw [hwa] at HR0
  have HX := Lib.hid (hx.nextR hba)
  have HE := Lib.hid (he.below hba)
  have HB0 := Lib.hid hba
  have HAW := Lib.hid (awake11 wa HE.out)
  clear hx he hd hr hba hg
  go_enter Tryz.func5, Tryz.ntmps5
  go_wp2_with fail
  try rw [hwa]
  clear hwa
  refine HAW.out.mono ?_
  rintro e w1 ⟨rfl, hb1⟩
  have HB1 := Lib.hid (HB0.out.trans (hb1.mono HB0.out.size))
  have HBU := Lib.hid (built11 a cp xs w1 (HX.out.nextR hb1) (HE.out.below hb1))
  have HR1 := Lib.hid (HR0.out.next hb1)
  have HE1 := Lib.hid (HE.out.below hb1)
  clear hb1 HB0 HX HE HAW HR0
  go_wp2_with fail
  refine HBU.out.mono ?_
  rintro e w2 ⟨rfl, h2⟩
  have H2 := Lib.hid h2
  have HR2 := Lib.hid (HR1.out.next h2.below)
  have HE2 := Lib.hid (HE1.out.below h2.below)
  clear h2 HBU HR1 HE1
  generalize w1.heap.size = B at H2
  generalize defs xs = m at H2
  have HWF := Lib.hid H2.out.wf
  have HO := Lib.hid H2.out.ord
  have HBL : Hid (Below w.heap.size w w2) := Lib.hid (HB1.out.trans (H2.out.below.mono HB1.out.size))
  have s0 := HR2.out.r0
  have s1 := HR2.out.r1
  have s2 := HR2.out.r2
  have s3 := HR2.out.r3
  cases hed : entAt m d with
  | none =>
    have HS := Lib.hid (SamePackage_out H2.out.hw (a := d) (b := g) (.inl hed))
    clear hed
    go_wp2_with fail
    refine HS.out.mono ?_
    rintro e w3 ⟨rfl, hb⟩
    have HBF := Lib.hid (HBL.out.trans (hb.mono HBL.out.size))
    clear hb
    go_wp2
    go_ret
    exact ⟨rfl, HBF.out⟩
  | some ed =>
  cases heg : entAt m g with
  | none =>
    have HS := Lib.hid (SamePackage_out H2.out.hw (a := d) (b := g) (.inr heg))
    clear hed heg
    go_wp2_with fail
    refine HS.out.mono ?_
    rintro e w3 ⟨rfl, hb⟩
    have HBF := Lib.hid (HBL.out.trans (hb.mono HBL.out.size))
    clear hb
    go_wp2
    go_ret
    exact ⟨rfl, HBF.out⟩
  | some eg =>
  obtain ⟨d, rfl, hdl, rfl⟩ := entAt_some hed
  obtain ⟨g, rfl, hgl, rfl⟩ := entAt_some heg
  clear hed heg
  have HS := Lib.hid (SamePackage_in H2.out.hw HO.out.short hdl hgl)
  obtain ⟨tg, htg⟩ : ∃ tg, togB m[d].c.name m[g].c.name m[d].c.loader m[g].c.loader = tg := ⟨_, rfl⟩
  rw [htg] at HS
  cases tg
  · clear htg
    go_wp2_with fail
    refine HS.out.mono ?_
    rintro e w3 ⟨rfl, hb⟩
    have HBF := Lib.hid (HBL.out.trans (hb.mono HBL.out.size))
    clear hb
    go_wp2
    go_ret
    exact ⟨rfl, HBF.out⟩
  have hk : homeB (clsAt m d) (clsAt m g) = true := by
    rw [clsAt_at hdl, clsAt_at hgl]
    exact htg
  have hk2 : homeB (clsAt m g) (clsAt m d) = true := by
    unfold homeB at *
    simp only [Bool.and_eq_true, beq_iff_eq] at *
    exact ⟨hk.1.symm, hk.2.symm⟩
  obtain ⟨hr1, hr2, hr3⟩ := HRS.out
  have HM1 := Lib.hid (fun wr (hr : Below w2.heap.size w2 wr) => RMethod (H2.out.next hr) hdl r hr1 hr2 hr3 (HE2.out.below hr))
  have HM2 := Lib.hid (fun wr (hr : Below w2.heap.size w2 wr) => RMethod (H2.out.next hr) hgl r hr1 hr2 hr3 (HE2.out.below hr))
  have HBAD := Lib.hid (fun h1 h2 => kin_bad hk (r := r) h1 h2)
  have HOK1 := Lib.hid (fun h1 h2 => kin_ok hk (r := r) h1 h2)
  have HOK2 := Lib.hid (fun h1 h2 => kin_ok hk2 (r := r) h1 h2)
  have HIN : Hid (∀ i, (methodR m i r).2 = 0 → ∃ (x y : Nat) (hx : x < m.length) (hy : y < m[x].c.meths.length), (methodR m i r).1 = ((x : Int), (y : Int))) := Lib.hid fun i h => by
    obtain ⟨hc, hp, hf, _⟩ := method_ok h
    obtain ⟨e1, e2, e3, e4⟩ := class_ok hc
    obtain ⟨⟨x, y, hx, hy, e, _, _⟩, _⟩ := has_found HWF.out HO.out (holN_lt (by omega) e1 e2) hf
    exact ⟨x, y, hx, hy, by rw [hp, e]⟩
  have HI1 := Lib.hid (HIN.out d)
  have HI2 := Lib.hid (HIN.out g)
  obtain ⟨R, hR⟩ : ∃ R, methodR m d r = R := ⟨_, rfl⟩
  obtain ⟨Q, hQ⟩ : ∃ Q, methodR m g r = Q := ⟨_, rfl⟩
  rw [hR] at HM1 HBAD HOK1 HOK2 HI1
  rw [hQ] at HM2 HBAD HOK1 HOK2 HI2
  clear hr1 hr2 hr3 hR hQ HIN hk hk2 htg
  obtain ⟨⟨p1, p2⟩, pe⟩ := R
  obtain ⟨⟨q1, q2⟩, qe⟩ := Q
  simp only at HM1 HM2 HBAD HOK1 HOK2 HI1 HI2
  go_wp2_with fail
  refine HS.out.mono ?_
  rintro e w3 ⟨rfl, hb⟩
  have HB3 := Lib.hid hb
  have r0 := below_cell' hb s0
  have r1 := below_cell' hb s1
  have r2 := below_cell' hb s2
  have r3 := below_cell' hb s3
  have HMX := Lib.hid (HM1.out _ hb)
  clear hb HS HM1 s0 s1 s2 s3
  go_wp2_with fail
  refine HMX.out.mono ?_
  rintro e w4 ⟨rfl, hb⟩
  obtain ⟨wx, hwx⟩ : ∃ wx, (w4.alloc (.cells #[.int .i64 p1, .int .i64 p2] 29)) = wx := ⟨_, rfl⟩
  have hbx : Below w4.heap.size w4 wx := by rw [← hwx]; exact (Below.refl _ _).alloc (Nat.le_refl _) _
  have k0 : wx.cell? ⟨w4.heap.size, 0, none⟩ = some (.int .i64 p1) := by rw [← hwx]; exact World.cell?_alloc_new ..
  have k1 : wx.cell? ⟨w4.heap.size, 1, none⟩ = some (.int .i64 p2) := by rw [← hwx]; exact World.cell?_alloc_new ..
  have hb4 := hb.trans (hbx.mono hb.size)
  have HB4 := Lib.hid (HB3.out.trans (hb4.mono HB3.out.size))
  have s0 := below_cell' hb4 r0
  have s1 := below_cell' hb4 r1
  have s2 := below_cell' hb4 r2
  have s3 := below_cell' hb4 r3
  have HMX := Lib.hid (HM2.out _ HB4.out)
  clear hb hbx hb4 HB3 HM2 r0 r1 r2 r3
  go_wp2_with fail
  try rw [hwx]
  clear hwx
  refine HMX.out.mono ?_
  rintro e w5 ⟨rfl, hb⟩
  obtain ⟨wx, hwx⟩ : ∃ wx, (w5.alloc (.cells #[.int .i64 q1, .int .i64 q2] 29)) = wx := ⟨_, rfl⟩
  have hbx : Below w5.heap.size w5 wx := by rw [← hwx]; exact (Below.refl _ _).alloc (Nat.le_refl _) _
  have n0 : wx.cell? ⟨w5.heap.size, 0, none⟩ = some (.int .i64 q1) := by rw [← hwx]; exact World.cell?_alloc_new ..
  have n1 : wx.cell? ⟨w5.heap.size, 1, none⟩ = some (.int .i64 q2) := by rw [← hwx]; exact World.cell?_alloc_new ..
  have hb5 := hb.trans (hbx.mono hb.size)
  have HB5 := Lib.hid (HB4.out.trans (hb5.mono HB4.out.size))
  have m0 := below_cell' hb5 k0
  have m1 := below_cell' hb5 k1
  clear hb hbx hb5 HB4 HMX k0 k1 s0 s1 s2 s3
  by_cases hp : pe = 0
  · subst hp
    obtain ⟨x, y, hx, hy, he⟩ := HI1.out rfl
    injection he with he1 he2
    subst he1; subst he2
    have HF := Lib.hid (fun h => HOK1.out rfl h)
    rw [flagsAt_at hx hy] at HF
    have HMT := Lib.hid (fun wr (hr : Below w2.heap.size w2 wr) => Method2 (H2.out.next hr) hx hy)
    generalize m[x].c.meths[y] = z at HF HMT
    clear hx hy HI1 HI2 HOK1 HOK2 HBAD hdl hgl
    obtain ⟨wi, hwi⟩ : ∃ wi, (wx.alloc (.cells #[.int .i64 x, .int .i64 y] 29)) = wi := ⟨_, rfl⟩
    have hbi : Below wx.heap.size wx wi := by rw [← hwi]; exact (Below.refl _ _).alloc (Nat.le_refl _) _
    have i0 : wi.cell? ⟨wx.heap.size, 0, none⟩ = some (.int .i64 x) := by rw [← hwi]; exact World.cell?_alloc_new ..
    have i1 : wi.cell? ⟨wx.heap.size, 1, none⟩ = some (.int .i64 y) := by rw [← hwi]; exact World.cell?_alloc_new ..
    have HB6 := Lib.hid (HB5.out.trans (hbi.mono HB5.out.size))
    have HMX := Lib.hid (HMT.out _ HB6.out)
    have k0 := below_cell' hbi m0
    have k1 := below_cell' hbi m1
    have j0 := below_cell' hbi n0
    have j1 := below_cell' hbi n1
    clear hbi HMT HB5
    go_wp2_with fail
    try rw [hwi]
    clear hwi hwx
    refine HMX.out.mono ?_
    rintro e w6 ⟨ad, q, c, rfl, hb⟩
    obtain ⟨wx, hwx⟩ : ∃ wx, (w6.alloc (.cells #[.string z.name, .string z.desc, .int .i64 z.flags, .int .i64 z.locals, .int .i64 z.stack, .slice ad q c] 40)) = wx := ⟨_, rfl⟩
    have hbx : Below w6.heap.size w6 wx := by rw [← hwx]; exact (Below.refl _ _).alloc (Nat.le_refl _) _
    have x2 : wx.cell? ⟨w6.heap.size, 2, none⟩ = some (.int .i64 z.flags) := by rw [← hwx]; exact World.cell?_alloc_new ..
    have hb6 := hb.trans (hbx.mono hb.size)
    have HB7 := Lib.hid (HBL.out.trans ((HB6.out.trans (hb6.mono HB6.out.size)).mono HBL.out.size))
    have m0 := below_cell' hb6 k0
    have m1 := below_cell' hb6 k1
    have n0 := below_cell' hb6 j0
    have n1 := below_cell' hb6 j1
    clear hb hbx hb6 HMX HB6 k0 k1 j0 j1 i0 i1
    by_cases hfl : bits .and .i64 z.flags 6 = 0
    · have hq := HF.out hfl
      injection hq with hq1 hq2
      injection hq1 with hq1 hq3
      subst hq1; subst hq2; subst hq3
      have hfl' : (bits .and .i64 z.flags 6 != 0) = false := by simpa using hfl
      have HID := Lib.hid (RID x y x y)
      rw [beq_self_eq_true, beq_self_eq_true] at HID
      clear HF hfl
      go_wp2_with fail
      try rw [hwx]
      clear hwx
      refine (HID.out _).mono ?_
      rintro e w7 ⟨rfl, hb⟩
      have HB8 := Lib.hid (HB7.out.trans (hb.mono HB7.out.size))
      clear hb
      go_wp2
      go_ret
      exact ⟨rfl, HB8.out⟩
    · have hfl' : (bits .and .i64 z.flags 6 != 0) = true := by simpa using hfl
      clear HF hfl
      go_wp2_with fail
      try rw [hwx]
      clear hwx
      go_ret
      exact ⟨rfl, HB7.out⟩
  · have hp' : (pe != 0) = true := by simpa using hp
    by_cases hq : qe = 0
    · subst hq
      obtain ⟨x, y, hx, hy, he⟩ := HI2.out rfl
      injection he with he1 he2
      subst he1; subst he2
      have HF := Lib.hid (fun h => HOK2.out rfl h)
      rw [flagsAt_at hx hy] at HF
      have HMT := Lib.hid (fun wr (hr : Below w2.heap.size w2 wr) => Method2 (H2.out.next hr) hx hy)
      generalize m[x].c.meths[y] = z at HF HMT
      clear hx hy HI1 HI2 HOK1 HOK2 HBAD hdl hgl
      obtain ⟨wi, hwi⟩ : ∃ wi, (wx.alloc (.cells #[.int .i64 p1, .int .i64 p2] 29)) = wi := ⟨_, rfl⟩
      have hbi : Below wx.heap.size wx wi := by rw [← hwi]; exact (Below.refl _ _).alloc (Nat.le_refl _) _
      have i0 : wi.cell? ⟨wx.heap.size, 0, none⟩ = some (.int .i64 p1) := by rw [← hwi]; exact World.cell?_alloc_new ..
      have i1 : wi.cell? ⟨wx.heap.size, 1, none⟩ = some (.int .i64 p2) := by rw [← hwi]; exact World.cell?_alloc_new ..
      have HB6 := Lib.hid (HB5.out.trans (hbi.mono HB5.out.size))
      have j0 := below_cell' hbi n0
      have j1 := below_cell' hbi n1
      have z0 : wi.frozen? ⟨wx.heap.size, 0, none⟩ = false := by rw [← hwi]; exact frozen_new ..
      have z1 : wi.frozen? ⟨wx.heap.size, 1, none⟩ = false := by rw [← hwi]; exact frozen_new ..
      have kk := set2 (v0 := .int .i64 x) (v1 := .int .i64 y) i0 i1
      have HB6' : Hid (Below w2.heap.size w2 ((wi.setCell ⟨wx.heap.size, 0, none⟩ (.int .i64 x)).setCell ⟨wx.heap.size, 1, none⟩ (.int .i64 y))) := Lib.hid ((HB6.out.setCell (p := ⟨wx.heap.size, 0, none⟩) HB5.out.size _).setCell (p := ⟨wx.heap.size, 1, none⟩) HB5.out.size _)
      have HMX := Lib.hid (HMT.out _ HB6'.out)
      obtain ⟨kk0, kk1⟩ := kk
      clear hbi HMT HB5 HB6
      go_wp2_with fail
      try rw [hwi]
      clear hwi hwx
      refine HMX.out.mono ?_
      rintro e w6 ⟨ad, q, c, rfl, hb⟩
      obtain ⟨wx, hwx⟩ : ∃ wx, (w6.alloc (.cells #[.string z.name, .string z.desc, .int .i64 z.flags, .int .i64 z.locals, .int .i64 z.stack, .slice ad q c] 40)) = wx := ⟨_, rfl⟩
      have hbx : Below w6.heap.size w6 wx := by rw [← hwx]; exact (Below.refl _ _).alloc (Nat.le_refl _) _
      have x2 : wx.cell? ⟨w6.heap.size, 2, none⟩ = some (.int .i64 z.flags) := by rw [← hwx]; exact World.cell?_alloc_new ..
      have hb6 := hb.trans (hbx.mono hb.size)
      have HB7 := Lib.hid (HBL.out.trans ((HB6'.out.trans (hb6.mono HB6'.out.size)).mono HBL.out.size))
      clear hb hbx hb6 HMX HB6' j0 j1 i0 i1 z0 z1 kk0 kk1 m0 m1 n0 n1
      by_cases hfl : bits .and .i64 z.flags 6 = 0
      · exfalso
        have hq := HF.out hfl
        injection hq with hq1 hq2
        exact hp hq2
      · have hfl' : (bits .and .i64 z.flags 6 != 0) = true := by simpa using hfl
        clear HF hfl
        go_wp2_with fail
        try rw [hwx]
        clear hwx
        go_ret
        exact ⟨rfl, HB7.out⟩
    · have hq' : (qe != 0) = true := by simpa using hq
      have e := HBAD.out hp hq
      have e : pe = qe := e
      subst e
      clear HBAD HOK1 HOK2 HI1 HI2
      have HBF := Lib.hid (HBL.out.trans (HB5.out.mono HBL.out.size))
      go_wp2_with fail
      try rw [hwx]
      clear hwx
      go_ret
      exact ⟨rfl, HBF.out⟩
end Go.Proofs.YtmpphhkbjmjomaaGreatDoor.Hi
