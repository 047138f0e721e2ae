/- ChooseSelects: the walk. -/
import Derived.Test.YtiiebakblkpkeaaGreatDoorWg
set_option maxRecDepth 100000
set_option maxHeartbeats 8000000
set_option linter.unusedVariables false
set_option linter.unusedSimpArgs false
namespace Go.Proofs.YtiiebakblkpkeaaGreatDoor.Hi
open Go.RowKit Go.Shelf Go.Sort Bs

theorem vir_okM {m : List EntM} (hw : WFm m) (ho : OrdM m) {x : MethM} {p q : Int × Int} (hx : methAt m p = some x) {r : Int} (h : virM m r p = (q, 0)) :
    ∃ y, methAt m q = some y ∧ y.name = x.name ∧ y.desc = x.desc ∧ bits .and .i64 y.flags 1032 = 0 ∧ extM m r q.1 = true ∧ (ovR m q p = (true, 0) ∨ isIfaceM m q.1 = true) := by
  cases her : entAt m r with
  | none => rw [(virM_none (.inl her)).1] at h; simp [Prod.ext_iff] at h
  | some e =>
    obtain ⟨k, rfl, hk, _⟩ := entAt_some her
    rw [(virM_some hk hx).1] at h
    exact vir_ok hw ho hx hk h
theorem itf_okM {m : List EntM} (hw : WFm m) (ho : OrdM m) (hf : FlA m) {x : MethM} {p q : Int × Int} (hx : methAt m p = some x) {r : Int} (h : itfM m r p = (q, 0)) :
    ∃ y, methAt m q = some y ∧ y.name = x.name ∧ y.desc = x.desc ∧ bits .and .i64 y.flags 1 ≠ 0 ∧ bits .and .i64 y.flags 1032 = 0 ∧ extM m r q.1 = true := by
  cases her : entAt m r with
  | none => rw [(virM_none (.inl her)).2] at h; simp [Prod.ext_iff] at h
  | some e =>
    obtain ⟨k, rfl, hk, _⟩ := entAt_some her
    rw [(virM_some hk hx).2] at h
    exact itf_ok hw ho hf hk h
theorem ovR_two {m : List EntM} {q p : Int × Int} {x y : MethM} (hx : methAt m p = some x) (hy : methAt m q = some y) : ovR m q p = (ovM m q p x, 0) := ovR_ok hx hy

theorem ChooseSelects (a : Option Addr) (cp : Nat) (xs : List ClsM) (r : Int) (p : Int × Int) (w : World) (hx : ClsSl (fun b => b < w.heap.size) w (.slice a xs.length cp) xs) (he : Lf.Env w) :
    Calls Tryz.prog 5 #[.slice a xs.length cp, .int .i64 r, .agg #[.int .i64 p.1, .int .i64 p.2]] w fun e w' => e = .returned (.bool true) ∧ Below w.heap.size w w' := by
  obtain ⟨wa, hwa⟩ : ∃ wa, (w.alloc (.cells #[.int .i64 p.1, .int .i64 p.2] 24)) = wa := ⟨_, rfl⟩
  have hba : Below w.heap.size w wa := by rw [← hwa]; exact (Below.refl _ _).alloc (Nat.le_refl _) _
  have p0 : wa.cell? ⟨w.heap.size, 0, none⟩ = some (.int .i64 p.1) := by rw [← hwa]; exact World.cell?_alloc_new ..
  have p1 : wa.cell? ⟨w.heap.size, 1, none⟩ = some (.int .i64 p.2) := by rw [← hwa]; exact World.cell?_alloc_new ..
  have HBA := Lib.hid hba
  have HP := Lib.hid (And.intro p0 p1)
  have HX := Lib.hid (hx.nextO hba)
  have HE := Lib.hid (he.below hba)
  have HAW := Lib.hid (awake12 wa)
  clear hx he hba p0 p1
  go_enter Tryz.func5, Tryz.ntmps5
  go_wp2_with fail
  try rw [hwa]
  clear hwa
  refine HAW.out.mono ?_
  rintro e w1 ⟨rfl, hb1⟩
  have HBU := Lib.hid (built12 a cp xs w1 (HX.out.nextO hb1) (HE.out.below hb1))
  have HB1 := Lib.hid (HBA.out.trans (hb1.mono HBA.out.size))
  have HP1 := Lib.hid (And.intro (below_cell' hb1 HP.out.1) (below_cell' hb1 HP.out.2))
  clear hb1 HX HE HAW HBA HP
  go_wp2_with fail
  refine HBU.out.mono ?_
  rintro e w2 ⟨rfl, h2⟩
  have H2 := Lib.hid h2
  have HB2 := Lib.hid (HB1.out.trans (h2.below.mono HB1.out.size))
  have p0 := below_cell' h2.below HP1.out.1
  have p1 := below_cell' h2.below HP1.out.2
  have HFL := Lib.hid (flA_defs xs)
  clear h2 HBU HB1 HP1
  generalize w1.heap.size = B at H2
  generalize defs xs = m at H2 HFL
  have HWF := Lib.hid H2.out.wf
  have HO := Lib.hid H2.out.ord
  have HM := Lib.hid (MethodAny H2.out p)
  have HP2 := Lib.hid (And.intro p0 p1)
  go_wp2_with fail
  refine HM.out.mono ?_
  rintro e w3 ⟨nm, ds, f, l, s, ad, q, c, er, rfl, g, k, hb⟩
  obtain ⟨wx, hwx⟩ : ∃ wx, (w3.alloc (.cells #[.string nm, .string ds, .int .i64 f, .int .i64 l, .int .i64 s, .slice ad q c] 39)) = wx := ⟨_, rfl⟩
  have hbx : Below w3.heap.size w3 wx := by rw [← hwx]; exact (Below.refl _ _).alloc (Nat.le_refl _) _
  have x0 : wx.cell? ⟨w3.heap.size, 0, none⟩ = some (.string nm) := by rw [← hwx]; exact World.cell?_alloc_new ..
  have x1 : wx.cell? ⟨w3.heap.size, 1, none⟩ = some (.string ds) := by rw [← hwx]; exact World.cell?_alloc_new ..
  have x2 : wx.cell? ⟨w3.heap.size, 2, none⟩ = some (.int .i64 f) := by rw [← hwx]; exact World.cell?_alloc_new ..
  have hb3 := hb.trans (hbx.mono hb.size)
  have HB3 := Lib.hid (HB2.out.trans (hb3.mono HB2.out.size))
  have H3 := Lib.hid (H2.out.next hb3)
  have G := Lib.hid g
  have K := Lib.hid k
  have HX3 := Lib.hid (And.intro x0 (And.intro x1 x2))
  have p0 := below_cell' hb3 HP2.out.1
  have p1 := below_cell' hb3 HP2.out.2
  have HP3 := Lib.hid (And.intro p0 p1)
  clear hb hbx hb3 g k HM HP2 HB2 H2
  have HV := Lib.hid (CVirtual H3.out r p)
  go_wp2_with fail
  try rw [hwx]
  clear hwx
  obtain ⟨⟨⟨u1, u2⟩, ur⟩, hV⟩ : ∃ R, virM m r p = R := ⟨_, rfl⟩
  rw [hV] at HV
  have HVE := Lib.hid hV
  simp only at HV
  refine HV.out.mono ?_
  rintro e w4 ⟨rfl, hb⟩
  obtain ⟨wm, hwm⟩ : ∃ wm, (w4.alloc (.cells #[.int .i64 u1, .int .i64 u2] 24)) = wm := ⟨_, rfl⟩
  have hbm : Below w4.heap.size w4 wm := by rw [← hwm]; exact (Below.refl _ _).alloc (Nat.le_refl _) _
  have m0 : wm.cell? ⟨w4.heap.size, 0, none⟩ = some (.int .i64 u1) := by rw [← hwm]; exact World.cell?_alloc_new ..
  have m1 : wm.cell? ⟨w4.heap.size, 1, none⟩ = some (.int .i64 u2) := by rw [← hwm]; exact World.cell?_alloc_new ..
  have hb' := hb.trans (hbm.mono hb.size)
  have HB4 := Lib.hid (HB3.out.trans (hb'.mono HB3.out.size))
  have H4 := Lib.hid (H3.out.next hb')
  have x0 := below_cell' hb' HX3.out.1
  have x1 := below_cell' hb' HX3.out.2.1
  have x2 := below_cell' hb' HX3.out.2.2
  have p0 := below_cell' hb' HP3.out.1
  have p1 := below_cell' hb' HP3.out.2
  have HX4 := Lib.hid (And.intro x0 x1)
  have HP4 := Lib.hid (And.intro p0 p1)
  have HM4 := Lib.hid (And.intro m0 m1)
  clear hb hbm hb' hV HV HX3 HP3 HB3 H3 x2
  by_cases z : er = 0
  case neg =>
    obtain ⟨hn, rfl⟩ := K.out z
    obtain rfl : 3 = ur := by
      have h1 := HVE.out
      rw [(virM_none (.inr hn)).1] at h1
      simp only [Prod.ext_iff] at h1
      exact h1.2
    clear z hn K G x0 x1 HX4 HFL HWF HO H4 p0 p1 m0 m1 HM4 HP4 HVE
    go_wp2
    try rw [hwm]
    go_ret
    exact ⟨rfl, HB4.out⟩
  subst z
  obtain ⟨x, hxm, rfl, rfl, rfl⟩ := G.out rfl
  have HXM := Lib.hid hxm
  clear G K hxm
  by_cases hu : ur = 0
  case neg =>
    have hu' : (ur == 0) = false := by simpa using hu
    clear hu HVE m0 m1 HM4
    have HIT := Lib.hid (CInterface H4.out r p)
    obtain ⟨⟨⟨v1, v2⟩, vr⟩, hI⟩ : ∃ R, itfM m r p = R := ⟨_, rfl⟩
    rw [hI] at HIT
    simp only at HIT
    go_wp2_with fail
    try rw [hwm]
    clear hwm
    refine HIT.out.mono ?_
    rintro _ w7 ⟨rfl, hb⟩
    obtain ⟨wn, hwn⟩ : ∃ wn, (w7.alloc (.cells #[.int .i64 v1, .int .i64 v2] 24)) = wn := ⟨_, rfl⟩
    have hbn : Below w7.heap.size w7 wn := by rw [← hwn]; exact (Below.refl _ _).alloc (Nat.le_refl _) _
    have n0 : wn.cell? ⟨w7.heap.size, 0, none⟩ = some (.int .i64 v1) := by rw [← hwn]; exact World.cell?_alloc_new ..
    have n1 : wn.cell? ⟨w7.heap.size, 1, none⟩ = some (.int .i64 v2) := by rw [← hwn]; exact World.cell?_alloc_new ..
    have hb' := hb.trans (hbn.mono hb.size)
    have HB7 := Lib.hid (HB4.out.trans (hb'.mono HB4.out.size))
    have H7 := Lib.hid (H4.out.next hb')
    have x0 := below_cell' hb' HX4.out.1
    have x1 := below_cell' hb' HX4.out.2
    have HX7 := Lib.hid (And.intro x0 x1)
    have HN7 := Lib.hid n0
    clear hb hbn hb' HIT HX4 HP4 HB4 H4 p0 p1
    by_cases hv : vr = 0
    case neg =>
      have hv' : (vr == 0) = false := by simpa using hv
      clear hI hv HX7 H7 x0 x1 n0 n1 HN7 HXM
      go_wp2
      try rw [hwn]
      go_ret
      exact ⟨rfl, HB7.out⟩
    subst hv
    obtain ⟨y, hy, e1, e2, hp1, hp2, hex⟩ := itf_okM HWF.out HO.out HFL.out HXM.out hI
    have HME := Lib.hid (OMethod_some H7.out hy)
    rw [e1, e2] at HME
    have h1' : (bits .and .i64 y.flags 1 == 0) = false := by simpa using hp1
    have h2' : (bits .and .i64 y.flags 1032 != 0) = false := by simpa using hp2
    have HEXT := Lib.hid hex
    clear hy e1 e2 hp1 hp2 hex hI HXM HFL
    go_wp2_with fail
    try rw [hwn]
    clear hwn
    refine HME.out.mono ?_
    rintro _ w8 ⟨ya, yq, yc, rfl, hb⟩
    obtain ⟨wo, hwo⟩ : ∃ wo, (w8.alloc (.cells #[.string x.name, .string x.desc, .int .i64 y.flags, .int .i64 y.locals, .int .i64 y.stack, .slice ya yq yc] 39)) = wo := ⟨_, rfl⟩
    have hbo : Below w8.heap.size w8 wo := by rw [← hwo]; exact (Below.refl _ _).alloc (Nat.le_refl _) _
    have y0 : wo.cell? ⟨w8.heap.size, 0, none⟩ = some (.string x.name) := by rw [← hwo]; exact World.cell?_alloc_new ..
    have y1 : wo.cell? ⟨w8.heap.size, 1, none⟩ = some (.string x.desc) := by rw [← hwo]; exact World.cell?_alloc_new ..
    have y2 : wo.cell? ⟨w8.heap.size, 2, none⟩ = some (.int .i64 y.flags) := by rw [← hwo]; exact World.cell?_alloc_new ..
    have hb' := hb.trans (hbo.mono hb.size)
    have HB8 := Lib.hid (HB7.out.trans (hb'.mono HB7.out.size))
    have x0 := below_cell' hb' HX7.out.1
    have x1 := below_cell' hb' HX7.out.2
    have n0 := below_cell' hb' HN7.out
    have HEX := Lib.hid ((H7.out.next hb').extends r v1)
    rw [HEXT.out] at HEX
    clear hb hbo hb' HME HX7 HN7 HB7 H7 HEXT n1
    go_wp2_with fail
    try rw [hwo]
    clear hwo
    refine HEX.out.mono ?_
    rintro _ w9 ⟨rfl, hb⟩
    have HB9 := Lib.hid (HB8.out.trans (hb.mono HB8.out.size))
    clear hb HEX HB8 x0 x1 n0 y0 y1 y2
    go_wp2
    go_ret
    exact ⟨rfl, HB9.out⟩
  case pos =>
    subst hu
    obtain ⟨z, hz, e1, e2, hp2, hex, hor⟩ := vir_okM HWF.out HO.out HXM.out HVE.out
    have HME := Lib.hid (OMethod_some H4.out hz)
    rw [e1, e2] at HME
    have h2' : (bits .and .i64 z.flags 1032 != 0) = false := by simpa using hp2
    have HEXT := Lib.hid hex
    have HOO : Hid (∃ ov, ovR m (u1, u2) p = (ov, 0) ∧ (ov = false → isIfaceM m u1 = true)) := Lib.hid ⟨_, ovR_two HXM.out hz, fun h => by
      rcases hor with h' | h'
      · rw [ovR_two HXM.out hz] at h'
        simp only [Prod.ext_iff] at h'
        rw [h'.1] at h
        cases h
      · exact h'⟩
    clear hz e1 e2 hp2 hex hor HVE
    go_wp2_with fail
    try rw [hwm]
    clear hwm
    refine HME.out.mono ?_
    rintro _ w5 ⟨za, zq, zc, rfl, hb⟩
    obtain ⟨wz, hwz⟩ : ∃ wz, (w5.alloc (.cells #[.string x.name, .string x.desc, .int .i64 z.flags, .int .i64 z.locals, .int .i64 z.stack, .slice za zq zc] 39)) = wz := ⟨_, rfl⟩
    have hbz : Below w5.heap.size w5 wz := by rw [← hwz]; exact (Below.refl _ _).alloc (Nat.le_refl _) _
    have z0 : wz.cell? ⟨w5.heap.size, 0, none⟩ = some (.string x.name) := by rw [← hwz]; exact World.cell?_alloc_new ..
    have z1 : wz.cell? ⟨w5.heap.size, 1, none⟩ = some (.string x.desc) := by rw [← hwz]; exact World.cell?_alloc_new ..
    have z2 : wz.cell? ⟨w5.heap.size, 2, none⟩ = some (.int .i64 z.flags) := by rw [← hwz]; exact World.cell?_alloc_new ..
    have hb' := hb.trans (hbz.mono hb.size)
    have HB5 := Lib.hid (HB4.out.trans (hb'.mono HB4.out.size))
    have H5 := Lib.hid (H4.out.next hb')
    have p0 := below_cell' hb' HP4.out.1
    have p1 := below_cell' hb' HP4.out.2
    have m0 := below_cell' hb' HM4.out.1
    have m1 := below_cell' hb' HM4.out.2
    have HX5 := Lib.hid (And.intro (below_cell' hb' HX4.out.1) (below_cell' hb' HX4.out.2))
    have HP5 := Lib.hid (And.intro p0 p1)
    have HM5 := Lib.hid m0
    have HZ5 := Lib.hid (And.intro z0 (And.intro z1 z2))
    obtain ⟨ov, hov, hif⟩ := HOO.out
    have HOV := Lib.hid (OOverrides H5.out (u1, u2) p)
    rw [hov] at HOV
    simp only at HOV
    have HIF := Lib.hid hif
    clear hb hbz hb' HME HX4 HP4 HM4 HB4 H4 x0 x1 HOO hov hif z0 z1 z2
    go_wp2_with fail
    try rw [hwz]
    clear hwz
    refine HOV.out.mono ?_
    rintro _ w6 ⟨rfl, hb⟩
    have HB6 := Lib.hid (HB5.out.trans (hb.mono HB5.out.size))
    have H6 := Lib.hid (H5.out.next hb)
    have x0 := below_cell' hb HX5.out.1
    have x1 := below_cell' hb HX5.out.2
    have m0 := below_cell' hb HM5.out
    have z0 := below_cell' hb HZ5.out.1
    have z1 := below_cell' hb HZ5.out.2.1
    have z2 := below_cell' hb HZ5.out.2.2
    have HX6 := Lib.hid (And.intro x0 x1)
    have HP6 := Lib.hid (And.intro (below_cell' hb HP5.out.1) (below_cell' hb HP5.out.2))
    have HM6 := Lib.hid m0
    have HEX := Lib.hid (H6.out.extends r u1)
    rw [HEXT.out] at HEX
    clear hb HX5 HP5 HM5 HZ5 HB5 H5 HOV p0 p1 m1 HEXT
    go_wp2_with fail
    refine HEX.out.mono ?_
    rintro _ w66 ⟨rfl, hb⟩
    have HB66 := Lib.hid (HB6.out.trans (hb.mono HB6.out.size))
    have H66 := Lib.hid (H6.out.next hb)
    have m0 := below_cell' hb HM6.out
    have HX66 := Lib.hid (And.intro (below_cell' hb HX6.out.1) (below_cell' hb HX6.out.2))
    have p0 := below_cell' hb HP6.out.1
    have p1 := below_cell' hb HP6.out.2
    have HP66 := Lib.hid (And.intro p0 p1)
    have HM66 := Lib.hid m0
    clear hb HX6 HP6 HM6 HB6 H6 HEX x0 x1 z0 z1 z2
    cases ov with
    | true =>
      clear HIF m0 HM66
      have HIT := Lib.hid (CInterface H66.out r p)
      obtain ⟨⟨⟨v1, v2⟩, vr⟩, hI⟩ : ∃ R, itfM m r p = R := ⟨_, rfl⟩
      rw [hI] at HIT
      simp only at HIT
      go_wp2_with fail
      refine HIT.out.mono ?_
      rintro _ w7 ⟨rfl, hb⟩
      obtain ⟨wn, hwn⟩ : ∃ wn, (w7.alloc (.cells #[.int .i64 v1, .int .i64 v2] 24)) = wn := ⟨_, rfl⟩
      have hbn : Below w7.heap.size w7 wn := by rw [← hwn]; exact (Below.refl _ _).alloc (Nat.le_refl _) _
      have n0 : wn.cell? ⟨w7.heap.size, 0, none⟩ = some (.int .i64 v1) := by rw [← hwn]; exact World.cell?_alloc_new ..
      have n1 : wn.cell? ⟨w7.heap.size, 1, none⟩ = some (.int .i64 v2) := by rw [← hwn]; exact World.cell?_alloc_new ..
      have hb' := hb.trans (hbn.mono hb.size)
      have HB7 := Lib.hid (HB66.out.trans (hb'.mono HB66.out.size))
      have H7 := Lib.hid (H66.out.next hb')
      have x0 := below_cell' hb' HX66.out.1
      have x1 := below_cell' hb' HX66.out.2
      have HX7 := Lib.hid (And.intro x0 x1)
      have HN7 := Lib.hid n0
      clear hb hbn hb' HIT HX66 HP66 HB66 H66 p0 p1
      by_cases hv : vr = 0
      case neg =>
        have hv' : (vr == 0) = false := by simpa using hv
        clear hI hv HX7 H7 x0 x1 n0 n1 HN7 HXM
        go_wp2
        try rw [hwn]
        go_ret
        exact ⟨rfl, HB7.out⟩
      subst hv
      obtain ⟨y, hy, e1, e2, hp1, hp2, hex⟩ := itf_okM HWF.out HO.out HFL.out HXM.out hI
      have HME := Lib.hid (OMethod_some H7.out hy)
      rw [e1, e2] at HME
      have h1' : (bits .and .i64 y.flags 1 == 0) = false := by simpa using hp1
      have h2' : (bits .and .i64 y.flags 1032 != 0) = false := by simpa using hp2
      have HEXT := Lib.hid hex
      clear hy e1 e2 hp1 hp2 hex hI HXM HFL
      go_wp2_with fail
      try rw [hwn]
      clear hwn
      refine HME.out.mono ?_
      rintro _ w8 ⟨ya, yq, yc, rfl, hb⟩
      obtain ⟨wo, hwo⟩ : ∃ wo, (w8.alloc (.cells #[.string x.name, .string x.desc, .int .i64 y.flags, .int .i64 y.locals, .int .i64 y.stack, .slice ya yq yc] 39)) = wo := ⟨_, rfl⟩
      have hbo : Below w8.heap.size w8 wo := by rw [← hwo]; exact (Below.refl _ _).alloc (Nat.le_refl _) _
      have y0 : wo.cell? ⟨w8.heap.size, 0, none⟩ = some (.string x.name) := by rw [← hwo]; exact World.cell?_alloc_new ..
      have y1 : wo.cell? ⟨w8.heap.size, 1, none⟩ = some (.string x.desc) := by rw [← hwo]; exact World.cell?_alloc_new ..
      have y2 : wo.cell? ⟨w8.heap.size, 2, none⟩ = some (.int .i64 y.flags) := by rw [← hwo]; exact World.cell?_alloc_new ..
      have hb' := hb.trans (hbo.mono hb.size)
      have HB8 := Lib.hid (HB7.out.trans (hb'.mono HB7.out.size))
      have x0 := below_cell' hb' HX7.out.1
      have x1 := below_cell' hb' HX7.out.2
      have n0 := below_cell' hb' HN7.out
      have HEX := Lib.hid ((H7.out.next hb').extends r v1)
      rw [HEXT.out] at HEX
      clear hb hbo hb' HME HX7 HN7 HB7 H7 HEXT n1
      go_wp2_with fail
      try rw [hwo]
      clear hwo
      refine HEX.out.mono ?_
      rintro _ w9 ⟨rfl, hb⟩
      have HB9 := Lib.hid (HB8.out.trans (hb.mono HB8.out.size))
      clear hb HEX HB8 x0 x1 n0 y0 y1 y2
      go_wp2
      go_ret
      exact ⟨rfl, HB9.out⟩
    | false =>
      have HI := Lib.hid (H66.out.isIface u1)
      rw [HIF.out rfl] at HI
      go_wp2_with fail
      refine HI.out.mono ?_
      rintro _ w67 ⟨rfl, hb⟩
      have HB67 := Lib.hid (HB66.out.trans (hb.mono HB66.out.size))
      have H67 := Lib.hid (H66.out.next hb)
      have HX67 := Lib.hid (And.intro (below_cell' hb HX66.out.1) (below_cell' hb HX66.out.2))
      have p0 := below_cell' hb HP66.out.1
      have p1 := below_cell' hb HP66.out.2
      have HP67 := Lib.hid (And.intro p0 p1)
      clear hb HX66 HP66 HM66 HB66 H66 HI m0 HIF
      have HIT := Lib.hid (CInterface H67.out r p)
      obtain ⟨⟨⟨v1, v2⟩, vr⟩, hI⟩ : ∃ R, itfM m r p = R := ⟨_, rfl⟩
      rw [hI] at HIT
      simp only at HIT
      go_wp2_with fail
      refine HIT.out.mono ?_
      rintro _ w7 ⟨rfl, hb⟩
      obtain ⟨wn, hwn⟩ : ∃ wn, (w7.alloc (.cells #[.int .i64 v1, .int .i64 v2] 24)) = wn := ⟨_, rfl⟩
      have hbn : Below w7.heap.size w7 wn := by rw [← hwn]; exact (Below.refl _ _).alloc (Nat.le_refl _) _
      have n0 : wn.cell? ⟨w7.heap.size, 0, none⟩ = some (.int .i64 v1) := by rw [← hwn]; exact World.cell?_alloc_new ..
      have n1 : wn.cell? ⟨w7.heap.size, 1, none⟩ = some (.int .i64 v2) := by rw [← hwn]; exact World.cell?_alloc_new ..
      have hb' := hb.trans (hbn.mono hb.size)
      have HB7 := Lib.hid (HB67.out.trans (hb'.mono HB67.out.size))
      have H7 := Lib.hid (H67.out.next hb')
      have x0 := below_cell' hb' HX67.out.1
      have x1 := below_cell' hb' HX67.out.2
      have HX7 := Lib.hid (And.intro x0 x1)
      have HN7 := Lib.hid n0
      clear hb hbn hb' HIT HX67 HP67 HB67 H67 p0 p1
      by_cases hv : vr = 0
      case neg =>
        have hv' : (vr == 0) = false := by simpa using hv
        clear hI hv HX7 H7 x0 x1 n0 n1 HN7 HXM
        go_wp2
        try rw [hwn]
        go_ret
        exact ⟨rfl, HB7.out⟩
      subst hv
      obtain ⟨y, hy, e1, e2, hp1, hp2, hex⟩ := itf_okM HWF.out HO.out HFL.out HXM.out hI
      have HME := Lib.hid (OMethod_some H7.out hy)
      rw [e1, e2] at HME
      have h1' : (bits .and .i64 y.flags 1 == 0) = false := by simpa using hp1
      have h2' : (bits .and .i64 y.flags 1032 != 0) = false := by simpa using hp2
      have HEXT := Lib.hid hex
      clear hy e1 e2 hp1 hp2 hex hI HXM HFL
      go_wp2_with fail
      try rw [hwn]
      clear hwn
      refine HME.out.mono ?_
      rintro _ w8 ⟨ya, yq, yc, rfl, hb⟩
      obtain ⟨wo, hwo⟩ : ∃ wo, (w8.alloc (.cells #[.string x.name, .string x.desc, .int .i64 y.flags, .int .i64 y.locals, .int .i64 y.stack, .slice ya yq yc] 39)) = wo := ⟨_, rfl⟩
      have hbo : Below w8.heap.size w8 wo := by rw [← hwo]; exact (Below.refl _ _).alloc (Nat.le_refl _) _
      have y0 : wo.cell? ⟨w8.heap.size, 0, none⟩ = some (.string x.name) := by rw [← hwo]; exact World.cell?_alloc_new ..
      have y1 : wo.cell? ⟨w8.heap.size, 1, none⟩ = some (.string x.desc) := by rw [← hwo]; exact World.cell?_alloc_new ..
      have y2 : wo.cell? ⟨w8.heap.size, 2, none⟩ = some (.int .i64 y.flags) := by rw [← hwo]; exact World.cell?_alloc_new ..
      have hb' := hb.trans (hbo.mono hb.size)
      have HB8 := Lib.hid (HB7.out.trans (hb'.mono HB7.out.size))
      have x0 := below_cell' hb' HX7.out.1
      have x1 := below_cell' hb' HX7.out.2
      have n0 := below_cell' hb' HN7.out
      have HEX := Lib.hid ((H7.out.next hb').extends r v1)
      rw [HEXT.out] at HEX
      clear hb hbo hb' HME HX7 HN7 HB7 H7 HEXT n1
      go_wp2_with fail
      try rw [hwo]
      clear hwo
      refine HEX.out.mono ?_
      rintro _ w9 ⟨rfl, hb⟩
      have HB9 := Lib.hid (HB8.out.trans (hb.mono HB8.out.size))
      clear hb HEX HB8 x0 x1 n0 y0 y1 y2
      go_wp2
      go_ret
      exact ⟨rfl, HB9.out⟩
end Go.Proofs.YtiiebakblkpkeaaGreatDoor.Hi
