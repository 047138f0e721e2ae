/- ResolveSound: the walk. -/
import Derived.Test.YtmpphhkbjmjomaaGreatDoorUf
set_option maxRecDepth 100000
set_option maxHeartbeats 4000000
set_option linter.unusedVariables false
set_option linter.unusedSimpArgs false
namespace Go.Proofs.YtmpphhkbjmjomaaGreatDoor.Hi
open Go.RowKit Bs

theorem ResolveSound (a : Option Addr) (cp : Nat) (xs : List ClsM) (d : Int) (hd : (Lit.int .i64 d).wf = true) (r : RefM) (w : World) (hx : ClsSl (fun b => b < w.heap.size) w (.slice a xs.length cp) xs) (hr : r.cls.size ≤ maxLen ∧ r.name.size ≤ maxLen ∧ r.desc.size ≤ maxLen) (he : Lf.Env w) :
    Calls Tryz.prog 3 #[.slice a xs.length cp, .int .i64 d, .agg #[.bool r.iface, .string r.cls, .string r.name, .string r.desc]] w fun e w' => e = .returned (.bool true) ∧ Below w.heap.size w w' := by
  have HRS := Lib.hid hr
  have HR0 := Lib.hid (RefAt.start w r)
  obtain ⟨wa, hwa⟩ : ∃ wa, (w.alloc (.cells #[.bool r.iface, .string r.cls, .string r.name, .string r.desc] 24)) = wa := ⟨_, rfl⟩
  have hba : Below w.heap.size w wa := by rw [← hwa]; exact (Below.refl _ _).alloc (Nat.le_refl _) _
  rw [hwa] at HR0
  have HX := Lib.hid (hx.nextR hba)
  have HE := Lib.hid (he.below hba)
  have HB0 := Lib.hid hba
  have HAW := Lib.hid (awake11 wa HE.out)
  clear hx he hd hr hba
  go_enter Tryz.func3, Tryz.ntmps3
  go_wp2_with fail
  try rw [hwa]
  clear hwa
  refine HAW.out.mono ?_
  rintro e w1 ⟨rfl, hb1⟩
  have HB1 := Lib.hid (HB0.out.trans (hb1.mono HB0.out.size))
  have HBU := Lib.hid (built11 a cp xs w1 (HX.out.nextR hb1) (HE.out.below hb1))
  have HR1 := Lib.hid (HR0.out.next hb1)
  have HE1 := Lib.hid (HE.out.below hb1)
  clear hb1 HB0 HX HE HAW HR0
  go_wp2_with fail
  refine HBU.out.mono ?_
  rintro e w2 ⟨rfl, h2⟩
  have H2 := Lib.hid h2
  have HR2 := Lib.hid (HR1.out.next h2.below)
  have HE2 := Lib.hid (HE1.out.below h2.below)
  clear h2 HBU HR1 HE1
  generalize w1.heap.size = B at H2
  generalize defs xs = m at H2
  have HWF := Lib.hid H2.out.wf
  have HO := Lib.hid H2.out.ord
  have HBL : Hid (Below w.heap.size w w2) := Lib.hid (HB1.out.trans (H2.out.below.mono HB1.out.size))
  have r0 := HR2.out.r0
  have r1 := HR2.out.r1
  have r2 := HR2.out.r2
  have r3 := HR2.out.r3
  cases hec : entAt m d with
  | none =>
    have HL := Lib.hid (RMethod_far H2.out hec r)
    have HC := Lib.hid (fun wr (hr : Below w2.heap.size w2 wr) => RClass_far (H2.out.next hr) hec r.cls)
    have HID := Lib.hid (RID 0 0 0 0)
    rw [beq_self_eq_true] at HID
    clear hec
    go_wp2_with fail
    refine HL.out.mono ?_
    rintro e w3 ⟨rfl, hb⟩
    have hbx : Below w3.heap.size w3 (w3.alloc (.cells #[.int .i64 0, .int .i64 0] 29)) := (Below.refl _ _).alloc (Nat.le_refl _) _
    have m0 : (w3.alloc (.cells #[.int .i64 0, .int .i64 0] 29)).cell? ⟨w3.heap.size, 0, none⟩ = some (.int .i64 0) := World.cell?_alloc_new ..
    have m1 : (w3.alloc (.cells #[.int .i64 0, .int .i64 0] 29)).cell? ⟨w3.heap.size, 1, none⟩ = some (.int .i64 0) := World.cell?_alloc_new ..
    have HB3 := Lib.hid (hb.trans (hbx.mono hb.size))
    have s1 := below_cell' HB3.out r1
    have HCX := Lib.hid (HC.out _ HB3.out)
    clear hb hbx HL HC r0 r1 r2 r3
    go_wp2_with fail
    refine HCX.out.mono ?_
    rintro e w4 ⟨rfl, hb⟩
    have hbx : Below w4.heap.size w4 (w4.alloc (.cells #[.int .i64 0, .string ⟨#[]⟩] 34)) := (Below.refl _ _).alloc (Nat.le_refl _) _
    have k0 := below_cell' hbx (below_cell' hb m0)
    have k1 := below_cell' hbx (below_cell' hb m1)
    have HB4 := Lib.hid (HBL.out.trans ((HB3.out.trans ((hb.trans (hbx.mono hb.size)).mono HB3.out.size)).mono HBL.out.size))
    clear hb hbx HCX HB3 m0 m1 s1
    go_wp2_with fail
    refine (HID.out _).mono ?_
    rintro e w5 ⟨rfl, hb⟩
    have HB5 := Lib.hid (HB4.out.trans (hb.mono HB4.out.size))
    clear hb
    go_wp2
    go_ret
    exact ⟨rfl, HB5.out⟩
  | some e =>
    obtain ⟨d, rfl, hdl, rfl⟩ := entAt_some hec
    clear hec
    obtain ⟨hr1, hr2, hr3⟩ := HRS.out
    have HM := Lib.hid (RMethod H2.out hdl r hr1 hr2 hr3 HE2.out)
    have HC := Lib.hid (fun wr (hr : Below w2.heap.size w2 wr) => RClass (H2.out.next hr) hdl r.cls hr1 (HE2.out.below hr))
    obtain ⟨R, hR⟩ : ∃ R, methodR m d r = R := ⟨_, rfl⟩
    rw [hR] at HM
    obtain ⟨⟨p1, p2⟩, er⟩ := R
    simp only at HM
    clear hr1 hr2 hr3
    by_cases hz : er = 0
    · subst hz
      have HOK := Lib.hid (method_ok (m := m) (i := d) (r := r) (by rw [hR]))
      rw [hR] at HOK
      obtain ⟨hc, hp, hf, ho⟩ := HOK.out
      obtain ⟨e1, e2, e3, e4⟩ := class_ok hc
      have hl := holN_lt (by omega) e1 e2
      obtain ⟨⟨x, y, hxl, hyl, hpe, hq, hext⟩, hifc⟩ := has_found HWF.out HO.out hl hf
      obtain ⟨hnm, hds⟩ := mEq_ok hq
      obtain ⟨ht1, ht2, ht3⟩ := refT_ok r.cls e1
      have hmo : moM m d x m[x].c.meths[y].flags (holN m (refT r.cls)) = true := by
        have := ho
        unfold openR at this
        rwa [hpe, flagsAt_at hxl hyl, Int.toNat_natCast] at this
      rw [hpe] at hp
      injection hp with hp1 hp2
      have hp1 : p1 = (x : Int) := hp1
      have hp2 : p2 = (y : Int) := hp2
      subst hp1; subst hp2
      rw [e4] at HC
      have HMT := Lib.hid (fun wr (hr : Below w2.heap.size w2 wr) => Method2 (H2.out.next hr) hxl hyl)
      rw [hnm, hds] at HMT
      have HHO := Lib.hid (fun wr (hr : Below w2.heap.size w2 wr) => Holder_any (H2.out.next hr) (refT r.cls) (name_fits e1) (HE2.out.below hr) e2 ht2 ht3)
      have HEX := Lib.hid (fun wr (hr : Below w2.heap.size w2 wr) => (H2.out.next hr).extends (holN m (refT r.cls)) x)
      rw [hext] at HEX
      have HII := Lib.hid (fun wr (hr : Below w2.heap.size w2 wr) => (H2.out.next hr).isIface (holN m (refT r.cls)))
      have HIF := Lib.hid hifc
      have HMO := Lib.hid (fun wr (hr : Below w2.heap.size w2 wr) => MethodOpen_any (H2.out.next hr) hdl hl hxl hyl)
      rw [hmo] at HMO
      have HTO := Lib.hid (fun wr (hr : Below w2.heap.size w2 wr) => TypeOpen_any (H2.out.next hr) hdl (refT r.cls) (name_fits e1) (HE2.out.below hr) e2)
      rw [e3] at HTO
      clear HOK hc hf ho e1 e2 e3 e4 hext hnm hds hq ht3 hmo hifc hpe hR hl
      generalize m[x].c.meths[y] = z at *
      generalize holN m (refT r.cls) = hol at *
      generalize refT r.cls = t at *
      obtain ⟨dm, nm⟩ := t
      simp only at HC HHO HTO HIF ht2 ht1
      clear ht1 hxl hyl hdl
      go_wp2_with fail
      refine HM.out.mono ?_
      rintro e w3 ⟨rfl, hb⟩
      obtain ⟨wx, hwx⟩ : ∃ wx, (w3.alloc (.cells #[.int .i64 x, .int .i64 y] 29)) = wx := ⟨_, rfl⟩
      have hbx : Below w3.heap.size w3 wx := by rw [← hwx]; exact (Below.refl _ _).alloc (Nat.le_refl _) _
      have m0 : wx.cell? ⟨w3.heap.size, 0, none⟩ = some (.int .i64 x) := by rw [← hwx]; exact World.cell?_alloc_new ..
      have m1 : wx.cell? ⟨w3.heap.size, 1, none⟩ = some (.int .i64 y) := by rw [← hwx]; exact World.cell?_alloc_new ..
      have HB3 := Lib.hid (hb.trans (hbx.mono hb.size))
      have s0 := below_cell' HB3.out r0
      have s1 := below_cell' HB3.out r1
      have s2 := below_cell' HB3.out r2
      have s3 := below_cell' HB3.out r3
      have HCX := Lib.hid (HC.out _ HB3.out)
      clear hb hbx HM HC r0 r1 r2 r3
      go_wp2_with fail
      try rw [hwx]
      clear hwx
      refine HCX.out.mono ?_
      rintro e w4 ⟨rfl, hb⟩
      obtain ⟨wx, hwx⟩ : ∃ wx, (w4.alloc (.cells #[.int .i64 dm, .string nm] 34)) = wx := ⟨_, rfl⟩
      have hbx : Below w4.heap.size w4 wx := by rw [← hwx]; exact (Below.refl _ _).alloc (Nat.le_refl _) _
      have t0 : wx.cell? ⟨w4.heap.size, 0, none⟩ = some (.int .i64 dm) := by rw [← hwx]; exact World.cell?_alloc_new ..
      have t1 : wx.cell? ⟨w4.heap.size, 1, none⟩ = some (.string nm) := by rw [← hwx]; exact World.cell?_alloc_new ..
      have hb4 := hb.trans (hbx.mono hb.size)
      have HB4 := Lib.hid (HB3.out.trans (hb4.mono HB3.out.size))
      have k0 := below_cell' hb4 m0
      have k1 := below_cell' hb4 m1
      have r0 := below_cell' hb4 s0
      have r2 := below_cell' hb4 s2
      have r3 := below_cell' hb4 s3
      have HMX := Lib.hid (HMT.out _ HB4.out)
      clear hb hbx hb4 HCX HB3 HMT m0 m1 s0 s1 s2 s3
      go_wp2_with fail
      try rw [hwx]
      clear hwx
      refine HMX.out.mono ?_
      rintro e w5 ⟨ad, q, c, rfl, hb⟩
      obtain ⟨wx, hwx⟩ : ∃ wx, (w5.alloc (.cells #[.string r.name, .string r.desc, .int .i64 z.flags, .int .i64 z.locals, .int .i64 z.stack, .slice ad q c] 40)) = wx := ⟨_, rfl⟩
      have hbx : Below w5.heap.size w5 wx := by rw [← hwx]; exact (Below.refl _ _).alloc (Nat.le_refl _) _
      have x0 : wx.cell? ⟨w5.heap.size, 0, none⟩ = some (.string r.name) := by rw [← hwx]; exact World.cell?_alloc_new ..
      have x1 : wx.cell? ⟨w5.heap.size, 1, none⟩ = some (.string r.desc) := by rw [← hwx]; exact World.cell?_alloc_new ..
      have hb5 := hb.trans (hbx.mono hb.size)
      have HB5 := Lib.hid (HB4.out.trans (hb5.mono HB4.out.size))
      have m0 := below_cell' hb5 k0
      have m1 := below_cell' hb5 k1
      have s0 := below_cell' hb5 r0
      have s2 := below_cell' hb5 r2
      have s3 := below_cell' hb5 r3
      have u0 := below_cell' hb5 t0
      have u1 := below_cell' hb5 t1
      have HHX := Lib.hid (HHO.out _ HB5.out)
      clear hb hbx hb5 HMX HB4 HHO k0 k1 r0 r2 r3 t0 t1
      go_wp2_with fail
      try rw [hwx]
      clear hwx
      refine HHX.out.mono ?_
      rintro e w6 ⟨rfl, hb⟩
      have HB6 := Lib.hid (HB5.out.trans (hb.mono HB5.out.size))
      have k0 := below_cell' hb m0
      have k1 := below_cell' hb m1
      have r0 := below_cell' hb s0
      have r2 := below_cell' hb s2
      have r3 := below_cell' hb s3
      have t0 := below_cell' hb u0
      have t1 := below_cell' hb u1
      have y0 := below_cell' hb x0
      have y1 := below_cell' hb x1
      have HEY := Lib.hid (HEX.out _ HB6.out)
      clear hb HHX HB5 HEX m0 m1 s0 s2 s3 u0 u1 x0 x1
      go_wp2_with fail
      refine HEY.out.mono ?_
      rintro e w7 ⟨rfl, hb⟩
      have HB7 := Lib.hid (HB6.out.trans (hb.mono HB6.out.size))
      have m0 := below_cell' hb k0
      have m1 := below_cell' hb k1
      have s0 := below_cell' hb r0
      have u0 := below_cell' hb t0
      have u1 := below_cell' hb t1
      clear hb HEY HB6 k0 k1 r0 r2 r3 t0 t1 y0 y1
      have HB7D : Hid (Below w2.heap.size w2 w7.drew) := Lib.hid HB7.out.drew
      by_cases hd0 : dm = 0
      · have hif := HIF.out (by omega)
        subst hd0
        have HIX := Lib.hid (HII.out _ HB7D.out)
        rw [hif] at HIX
        obtain ⟨bi, hbi⟩ : ∃ bi, r.iface = bi := ⟨_, rfl⟩
        rw [hbi] at HIX s0
        clear hif hbi HIF HII
        go_wp2_with fail
        cases bi
        · go_region_held3 (fun w' => w'.cell? ⟨w4.heap.size, 0, none⟩ = some (.int .i64 0) ∧ w'.cell? ⟨w.heap.size, 0, none⟩ = some (.bool false))
            (first | exact ⟨u0, s0⟩ | exact ⟨i0, j0⟩)
            (first | (go_at_call 14; refine HIX.out.mono ?_; rintro e w8 ⟨rfl, hb⟩; (have i0 := below_cell' hb (show w7.drew.cell? _ = _ from u0)); (have j0 := below_cell' hb (show w7.drew.cell? _ = _ from s0))))
          have HB8 := Lib.hid (HB7D.out.trans (hb.mono HB7D.out.size))
          have m0 := below_cell' hb (show w7.drew.cell? _ = _ from m0)
          have m1 := below_cell' hb (show w7.drew.cell? _ = _ from m1)
          have u0 := i0
          have u1 := below_cell' hb (show w7.drew.cell? _ = _ from u1)
          have HMX := Lib.hid (HMO.out _ HB8.out)
          clear hb HIX HB7 HB7D i0 j0 s0
          go_wp2_with fail
          refine HMX.out.mono ?_
          rintro e w9 ⟨rfl, hb⟩
          have HB9 := Lib.hid (HB8.out.trans (hb.mono HB8.out.size))
          have v0 := below_cell' hb u0
          have v1 := below_cell' hb u1
          have HTX := Lib.hid (HTO.out _ HB9.out)
          clear hb HMX HTO HMO HB8 m0 m1 u0 u1
          go_wp2_with fail
          refine HTX.out.mono ?_
          rintro e w10 ⟨rfl, hb⟩
          have HBF := Lib.hid (HBL.out.trans ((HB9.out.trans (hb.mono HB9.out.size)).mono HBL.out.size))
          clear hb HTX
          go_wp2
          go_ret
          exact ⟨rfl, HBF.out⟩
        · go_region_held3 (fun w' => w'.cell? ⟨w4.heap.size, 0, none⟩ = some (.int .i64 0) ∧ w'.cell? ⟨w.heap.size, 0, none⟩ = some (.bool true))
            (first | exact ⟨u0, s0⟩ | exact ⟨i0, j0⟩)
            (first | (go_at_call 14; refine HIX.out.mono ?_; rintro e w8 ⟨rfl, hb⟩; (have i0 := below_cell' hb (show w7.drew.cell? _ = _ from u0)); (have j0 := below_cell' hb (show w7.drew.cell? _ = _ from s0))))
          have HB8 := Lib.hid (HB7D.out.trans (hb.mono HB7D.out.size))
          have m0 := below_cell' hb (show w7.drew.cell? _ = _ from m0)
          have m1 := below_cell' hb (show w7.drew.cell? _ = _ from m1)
          have u0 := i0
          have u1 := below_cell' hb (show w7.drew.cell? _ = _ from u1)
          have HMX := Lib.hid (HMO.out _ HB8.out)
          clear hb HIX HB7 HB7D i0 j0 s0
          go_wp2_with fail
          refine HMX.out.mono ?_
          rintro e w9 ⟨rfl, hb⟩
          have HB9 := Lib.hid (HB8.out.trans (hb.mono HB8.out.size))
          have v0 := below_cell' hb u0
          have v1 := below_cell' hb u1
          have HTX := Lib.hid (HTO.out _ HB9.out)
          clear hb HMX HTO HMO HB8 m0 m1 u0 u1
          go_wp2_with fail
          refine HTX.out.mono ?_
          rintro e w10 ⟨rfl, hb⟩
          have HBF := Lib.hid (HBL.out.trans ((HB9.out.trans (hb.mono HB9.out.size)).mono HBL.out.size))
          clear hb HTX
          go_wp2
          go_ret
          exact ⟨rfl, HBF.out⟩
      · have hd0' : (dm == 0) = false := by simpa using hd0
        clear HII HIF hd0
        have HMX := Lib.hid (HMO.out _ HB7D.out)
        go_wp2_with fail
        go_region
        all_goals
          have HB8 := HB7D
          have m0 : w7.drew.cell? ⟨w3.heap.size, 0, none⟩ = some (.int .i64 x) := m0
          have m1 : w7.drew.cell? ⟨w3.heap.size, 1, none⟩ = some (.int .i64 y) := m1
          have u0 : w7.drew.cell? ⟨w4.heap.size, 0, none⟩ = some (.int .i64 dm) := u0
          have u1 : w7.drew.cell? ⟨w4.heap.size, 1, none⟩ = some (.string nm) := u1
          clear s0 HB7 HB7D
          go_wp2_with fail
          refine HMX.out.mono ?_
          rintro e w9 ⟨rfl, hb⟩
          have HB9 := Lib.hid (HB8.out.trans (hb.mono HB8.out.size))
          have v0 := below_cell' hb u0
          have v1 := below_cell' hb u1
          have HTX := Lib.hid (HTO.out _ HB9.out)
          clear hb HMX HTO HMO HB8 m0 m1 u0 u1
          go_wp2_with fail
          refine HTX.out.mono ?_
          rintro e w10 ⟨rfl, hb⟩
          have HBF := Lib.hid (HBL.out.trans ((HB9.out.trans (hb.mono HB9.out.size)).mono HBL.out.size))
          clear hb HTX
          go_wp2
          go_ret
          exact ⟨rfl, HBF.out⟩
    · have HBD := Lib.hid (method_bad (m := m) (i := d) (r := r) (by rw [hR]; exact hz))
      rw [hR] at HBD
      obtain ⟨hp, hcase⟩ := HBD.out
      injection hp with hp1 hp2
      have hp1 : p1 = 0 := hp1
      have hp2 : p2 = 0 := hp2
      subst hp1; subst hp2
      have hcase : (classR m d r.cls).2 = 0 ∨ er = 1 ∨ er = (classR m d r.cls).2 := hcase
      obtain ⟨Q, hQ⟩ : ∃ Q, classR m d r.cls = Q := ⟨_, rfl⟩
      obtain ⟨⟨dm, nm⟩, f⟩ := Q
      rw [hQ] at HC hcase
      simp only at HC hcase
      have hz' : (er != 0) = true := by simpa using hz
      have HID := Lib.hid (RID 0 0 0 0)
      rw [beq_self_eq_true] at HID
      clear HBD hR hQ hdl
      go_wp2_with fail
      refine HM.out.mono ?_
      rintro e w3 ⟨rfl, hb⟩
      have hbx : Below w3.heap.size w3 (w3.alloc (.cells #[.int .i64 0, .int .i64 0] 29)) := (Below.refl _ _).alloc (Nat.le_refl _) _
      have m0 : (w3.alloc (.cells #[.int .i64 0, .int .i64 0] 29)).cell? ⟨w3.heap.size, 0, none⟩ = some (.int .i64 0) := World.cell?_alloc_new ..
      have m1 : (w3.alloc (.cells #[.int .i64 0, .int .i64 0] 29)).cell? ⟨w3.heap.size, 1, none⟩ = some (.int .i64 0) := World.cell?_alloc_new ..
      have HB3 := Lib.hid (hb.trans (hbx.mono hb.size))
      have s1 := below_cell' HB3.out r1
      have HCX := Lib.hid (HC.out _ HB3.out)
      clear hb hbx HM HC r0 r1 r2 r3
      go_wp2_with fail
      refine HCX.out.mono ?_
      rintro e w4 ⟨rfl, hb⟩
      obtain ⟨wx, hwx⟩ : ∃ wx, (w4.alloc (.cells #[.int .i64 dm, .string nm] 34)) = wx := ⟨_, rfl⟩
      have hbx : Below w4.heap.size w4 wx := by rw [← hwx]; exact (Below.refl _ _).alloc (Nat.le_refl _) _
      have k0 := below_cell' hbx (below_cell' hb m0)
      have k1 := below_cell' hbx (below_cell' hb m1)
      have HB4 := Lib.hid (HBL.out.trans ((HB3.out.trans ((hb.trans (hbx.mono hb.size)).mono HB3.out.size)).mono HBL.out.size))
      clear hb hbx HCX HB3 m0 m1 s1
      go_wp2_with fail
      try rw [hwx]
      clear hwx
      refine (HID.out _).mono ?_
      rintro e w5 ⟨rfl, hb⟩
      have HB5 := Lib.hid (HB4.out.trans (hb.mono HB4.out.size))
      clear hb
      by_cases hf : f = 0
      · subst hf
        clear hcase
        go_wp2
        go_ret
        exact ⟨rfl, HB5.out⟩
      · have hf' : (f == 0) = false := by simpa using hf
        by_cases h1 : er = 1
        · subst h1
          clear hcase
          go_wp2
          go_ret
          exact ⟨rfl, HB5.out⟩
        · have h1' : (er == 1) = false := by simpa using h1
          obtain rfl : er = f := by omega
          clear hcase
          go_wp2
          go_ret
          exact ⟨rfl, HB5.out⟩
end Go.Proofs.YtmpphhkbjmjomaaGreatDoor.Hi
