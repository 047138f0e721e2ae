/- ResolveGrows: the walk. -/
import Derived.Test.YtmpphhkbjmjomaaGreatDoorUj
set_option maxRecDepth 100000
set_option maxHeartbeats 4000000
set_option linter.unusedVariables false
set_option linter.unusedSimpArgs false
namespace Go.Proofs.YtmpphhkbjmjomaaGreatDoor.Hi
open Go.RowKit Bs

theorem Built.later {B bw : Nat} {w0 w2 w4 w5 : World} {m : List EntM} (h : Built B bw w0 w2 m) (hb : Below w2.heap.size w2 w4) (c : ClsM) (hw' : HW (fun k => (B ≤ k ∧ k < w2.heap.size) ∨ (w4.heap.size ≤ k ∧ k < w5.heap.size)) bw w5 (defM m c)) (hc : Chg (fun k => B ≤ k ∧ k < w2.heap.size) w4 w5) :
    Built B bw w0 w5 (defM m c) where
  hw := hw'.mono fun k hk => by
    have := hc.size
    have := hb.size
    have := h.le
    rcases hk with hk | hk
    · exact ⟨hk.1, by omega⟩
    · exact ⟨by omega, hk.2⟩
  ord := defM_ord h.wf h.ord c
  below := (h.below.trans (hb.mono h.below.size)).trans (hc.below (Nat.le_trans h.below.size hb.size) fun k hk hf => by have := h.le; omega)
  le := ⟨h.le.1, Nat.le_trans h.le.2 (Nat.le_trans hb.size hc.size)⟩

theorem ResolveGrows (a : Option Addr) (cp : Nat) (xs : List ClsM) (cs : List Value) (c : ClsM) (d : Int) (hd : (Lit.int .i64 d).wf = true) (r : RefM) (w : World) (hx : ClsSl (fun b => b < w.heap.size) w (.slice a xs.length cp) xs) (hcl : ClsIs (fun b => b < w.heap.size) w cs c) (hr : r.cls.size ≤ maxLen ∧ r.name.size ≤ maxLen ∧ r.desc.size ≤ maxLen) (he : Lf.Env w) :
    Calls Tryz.prog 4 #[.slice a xs.length cp, .agg cs.toArray, .int .i64 d, .agg #[.bool r.iface, .string r.cls, .string r.name, .string r.desc]] w fun e w' => e = .returned (.bool true) ∧ Below w.heap.size w w' := by
  have HRS := Lib.hid hr
  have HEW := Lib.hid he
  have HCL0 := Lib.hid hcl
  obtain ⟨iv, mv, rfl, p1, _, hi, _, _, hm⟩ := hcl
  obtain ⟨ia, ic, rfl, _⟩ := id hi
  obtain ⟨ma, mc, rfl, _⟩ := id hm
  rw [show [Value.string c.name, .string c.super, .slice ia c.ifaces.length ic, .int .i64 c.flags, .int .i64 c.loader, .slice ma c.meths.length mc].toArray = #[Value.string c.name, .string c.super, .slice ia c.ifaces.length ic, .int .i64 c.flags, .int .i64 c.loader, .slice ma c.meths.length mc] from rfl]
  have HR0 := Lib.hid (RefAt.start (w.alloc (.cells #[.string c.name, .string c.super, .slice ia c.ifaces.length ic, .int .i64 c.flags, .int .i64 c.loader, .slice ma c.meths.length mc] 54)) r)
  obtain ⟨wa, hwa⟩ : ∃ wa, ((w.alloc (.cells #[.string c.name, .string c.super, .slice ia c.ifaces.length ic, .int .i64 c.flags, .int .i64 c.loader, .slice ma c.meths.length mc] 54)).alloc (.cells #[.bool r.iface, .string r.cls, .string r.name, .string r.desc] 24)) = wa := ⟨_, rfl⟩
  have hba : Below w.heap.size w wa := by rw [← hwa]; exact ((Below.refl _ _).alloc (Nat.le_refl _) _).alloc (by simp) _
  have hbox : wa.cell? ⟨w.heap.size, 0, none⟩ = some (.string c.name) ∧ wa.cell? ⟨w.heap.size, 1, none⟩ = some (.string c.super) ∧ wa.cell? ⟨w.heap.size, 2, none⟩ = some (.slice ia c.ifaces.length ic) ∧ wa.cell? ⟨w.heap.size, 3, none⟩ = some (.int .i64 c.flags) ∧ wa.cell? ⟨w.heap.size, 4, none⟩ = some (.int .i64 c.loader) ∧ wa.cell? ⟨w.heap.size, 5, none⟩ = some (.slice ma c.meths.length mc) := by
    rw [← hwa]
    exact ⟨alloc_old (World.cell?_alloc_new ..), alloc_old (World.cell?_alloc_new ..), alloc_old (World.cell?_alloc_new ..), alloc_old (World.cell?_alloc_new ..), alloc_old (World.cell?_alloc_new ..), alloc_old (World.cell?_alloc_new ..)⟩
  rw [hwa] at HR0
  rw [World.size_alloc] at HR0
  have HBOX := Lib.hid hbox
  have HX := Lib.hid (hx.nextR hba)
  have HE := Lib.hid (he.below hba)
  have HCL := Lib.hid (HCL0.out.next hba)
  have HB0 := Lib.hid hba
  have HAW := Lib.hid (awake11 wa HE.out)
  clear hx he hd hr hba hbox hi hm p1 HCL0
  go_enter Tryz.func4, Tryz.ntmps4
  go_wp2_with fail
  try rw [hwa]
  clear hwa
  refine HAW.out.mono ?_
  rintro e w1 ⟨rfl, hb1⟩
  have HB1 := Lib.hid (HB0.out.trans (hb1.mono HB0.out.size))
  have HBU := Lib.hid (built11 a cp xs w1 (HX.out.nextR hb1) (HE.out.below hb1))
  have HR1 := Lib.hid (HR0.out.next hb1)
  have HE1 := Lib.hid (HE.out.below hb1)
  have HCL1 := Lib.hid (HCL.out.next hb1)
  have g0 := below_cell' hb1 HBOX.out.1
  have g1 := below_cell' hb1 HBOX.out.2.1
  have g2 := below_cell' hb1 HBOX.out.2.2.1
  have g3 := below_cell' hb1 HBOX.out.2.2.2.1
  have g4 := below_cell' hb1 HBOX.out.2.2.2.2.1
  have g5 := below_cell' hb1 HBOX.out.2.2.2.2.2
  clear hb1 HB0 HX HE HAW HR0 HCL HBOX
  go_wp2_with fail
  refine HBU.out.mono ?_
  rintro e w2 ⟨rfl, h2⟩
  have H2 := Lib.hid h2
  have HR2 := Lib.hid (HR1.out.next h2.below)
  have HE2 := Lib.hid (HE1.out.below h2.below)
  have HCL2 := Lib.hid (HCL1.out.next h2.below)
  have hb12 := h2.below
  have q0 := below_cell' hb12 g0
  have q1 := below_cell' hb12 g1
  have q2 := below_cell' hb12 g2
  have q3 := below_cell' hb12 g3
  have q4 := below_cell' hb12 g4
  have q5 := below_cell' hb12 g5
  have HSZ : Hid (w.heap.size < w1.heap.size ∧ w.heap.size + 1 < w1.heap.size) := Lib.hid ⟨World.block_lt_of_cell? _ _ g0, World.block_lt_of_cell? _ _ HR1.out.r0⟩
  clear h2 hb12 HBU HR1 HE1 HCL1 g0 g1 g2 g3 g4 g5
  generalize w1.heap.size = B at H2 HSZ
  generalize defs xs = m at H2
  have HWF := Lib.hid H2.out.wf
  have HO := Lib.hid H2.out.ord
  have HBL : Hid (Below w.heap.size w w2) := Lib.hid (HB1.out.trans (H2.out.below.mono HB1.out.size))
  have r0 := HR2.out.r0
  have r1 := HR2.out.r1
  have r2 := HR2.out.r2
  have r3 := HR2.out.r3
  cases hec : entAt m d with
  | none =>
    have HL := Lib.hid (RMethod_far H2.out hec r)
    clear hec q0 q1 q2 q3 q4 q5
    go_wp2_with fail
    refine HL.out.mono ?_
    rintro e w3 ⟨rfl, hb⟩
    have hbx : Below w3.heap.size w3 (w3.alloc (.cells #[.int .i64 0, .int .i64 0] 29)) := (Below.refl _ _).alloc (Nat.le_refl _) _
    have HB3 := Lib.hid (HBL.out.trans ((hb.trans (hbx.mono hb.size)).mono HBL.out.size))
    clear hb hbx HL r0 r1 r2 r3
    go_wp2
    go_ret
    exact ⟨rfl, HB3.out⟩
  | some e =>
    obtain ⟨d, rfl, hdl, rfl⟩ := entAt_some hec
    clear hec
    obtain ⟨hr1, hr2, hr3⟩ := HRS.out
    have HM := Lib.hid (RMethod H2.out hdl r hr1 hr2 hr3 HE2.out)
    have HLT := Lib.hid (method_later HWF.out HO.out c hdl (r := r))
    have HDL : Hid (d < (defM m c).length) := Lib.hid (Nat.lt_of_lt_of_le hdl (len_later m c))
    obtain ⟨R, hR⟩ : ∃ R, methodR m d r = R := ⟨_, rfl⟩
    rw [hR] at HM HLT
    obtain ⟨⟨p1, p2⟩, er⟩ := R
    simp only at HM
    clear hr1 hr2 hr3 hR
    go_wp2_with fail
    refine HM.out.mono ?_
    rintro e w3 ⟨rfl, hb⟩
    obtain ⟨wx, hwx⟩ : ∃ wx, (w3.alloc (.cells #[.int .i64 p1, .int .i64 p2] 29)) = wx := ⟨_, rfl⟩
    have hbx : Below w3.heap.size w3 wx := by rw [← hwx]; exact (Below.refl _ _).alloc (Nat.le_refl _) _
    have m0 : wx.cell? ⟨w3.heap.size, 0, none⟩ = some (.int .i64 p1) := by rw [← hwx]; exact World.cell?_alloc_new ..
    have m1 : wx.cell? ⟨w3.heap.size, 1, none⟩ = some (.int .i64 p2) := by rw [← hwx]; exact World.cell?_alloc_new ..
    have hb3 := hb.trans (hbx.mono hb.size)
    have HB3 := Lib.hid hb3
    have s0 := below_cell' hb3 q0
    have s1 := below_cell' hb3 q1
    have s2 := below_cell' hb3 q2
    have s3 := below_cell' hb3 q3
    have s4 := below_cell' hb3 q4
    have s5 := below_cell' hb3 q5
    have t0 := below_cell' hb3 r0
    have t1 := below_cell' hb3 r1
    have t2 := below_cell' hb3 r2
    have t3 := below_cell' hb3 r3
    have HDF := Lib.hid (Define (H2.out.hw.alike hb3.size (Alike.of_below hb3 H2.out.live)) HO.out.short (HCL2.out.next hb3) (fun k hk => hk) (fun k hk => Nat.lt_of_lt_of_le hk.2 hb3.size) (HE2.out.below hb3))
    rw [show [Value.string c.name, .string c.super, .slice ia c.ifaces.length ic, .int .i64 c.flags, .int .i64 c.loader, .slice ma c.meths.length mc].toArray = #[Value.string c.name, .string c.super, .slice ia c.ifaces.length ic, .int .i64 c.flags, .int .i64 c.loader, .slice ma c.meths.length mc] from rfl] at HDF
    have HW3 : Hid (w2.heap.size ≤ w3.heap.size ∧ w3.heap.size < wx.heap.size) := Lib.hid ⟨hb.size, World.block_lt_of_cell? _ _ m0⟩
    clear hb hbx hb3 HM q0 q1 q2 q3 q4 q5 r0 r1 r2 r3
    by_cases h3 : er = 3
    · subst h3
      have HBF := Lib.hid (HBL.out.trans (HB3.out.mono HBL.out.size))
      go_wp2_with fail
      try rw [hwx]
      clear hwx
      go_ret
      exact ⟨rfl, HBF.out⟩
    have h3' : (er == 3) = false := by simpa using h3
    go_wp2_with fail
    try rw [hwx]
    clear hwx
    refine HDF.out.mono ?_
    rintro e w5 ⟨rfl, hw5, hc5⟩
    have H5 := Lib.hid (H2.out.later HB3.out c hw5 hc5)
    have HC5 := Lib.hid hc5
    have k0 := hc5.cell_eq m0 (by have := HW3.out; simp only; omega)
    have k1 := hc5.cell_eq m1 (by have := HW3.out; simp only; omega)
    have r0 := hc5.cell_eq t0 (by have := HSZ.out; simp only; omega)
    have r1 := hc5.cell_eq t1 (by have := HSZ.out; simp only; omega)
    have r2 := hc5.cell_eq t2 (by have := HSZ.out; simp only; omega)
    have r3 := hc5.cell_eq t3 (by have := HSZ.out; simp only; omega)
    have hb5 : Below w.heap.size w w5 := (HBL.out.trans (HB3.out.mono HBL.out.size)).trans (hc5.below (Nat.le_trans HBL.out.size HB3.out.size) (fun k hk hf => by have := HSZ.out; omega))
    have HB5 := Lib.hid hb5
    have he5 : Lf.Env w5 := HEW.out.below hb5
    obtain ⟨hr1, hr2, hr3⟩ := HRS.out
    have HM5 := Lib.hid (RMethod H5.out HDL.out r hr1 hr2 hr3 he5)
    clear hw5 hc5 hb5 he5 hr1 hr2 hr3 HDF m0 m1 s0 s1 s2 s3 s4 s5 t0 t1 t2 t3
    by_cases h20 : er = 20
    · subst h20
      obtain ⟨R, hR⟩ : ∃ R, methodR (defM m c) d r = R := ⟨_, rfl⟩
      rw [hR] at HM5
      obtain ⟨⟨u1, u2⟩, ur⟩ := R
      simp only at HM5
      clear HLT hR
      go_wp2_with fail
      refine HM5.out.mono ?_
      rintro e w6 ⟨rfl, hb⟩
      obtain ⟨wx, hwx⟩ : ∃ wx, (w6.alloc (.cells #[.int .i64 u1, .int .i64 u2] 29)) = wx := ⟨_, rfl⟩
      have hbx : Below w6.heap.size w6 wx := by rw [← hwx]; exact (Below.refl _ _).alloc (Nat.le_refl _) _
      have HB6 := Lib.hid (HB5.out.trans ((hb.trans (hbx.mono hb.size)).mono HB5.out.size))
      clear hb hbx HM5
      go_wp2_with fail
      try rw [hwx]
      clear hwx
      go_ret
      exact ⟨rfl, HB6.out⟩
    · have h20' : (er == 20) = false := by simpa using h20
      have HEQ := HLT.out h20
      rw [HEQ] at HM5
      simp only at HM5
      have HID := Lib.hid (RID p1 p2 p1 p2)
      rw [beq_self_eq_true, beq_self_eq_true] at HID
      clear HLT HEQ
      go_wp2_with fail
      refine HM5.out.mono ?_
      rintro e w6 ⟨rfl, hb⟩
      obtain ⟨wx, hwx⟩ : ∃ wx, (w6.alloc (.cells #[.int .i64 p1, .int .i64 p2] 29)) = wx := ⟨_, rfl⟩
      have hbx : Below w6.heap.size w6 wx := by rw [← hwx]; exact (Below.refl _ _).alloc (Nat.le_refl _) _
      have n0 : wx.cell? ⟨w6.heap.size, 0, none⟩ = some (.int .i64 p1) := by rw [← hwx]; exact World.cell?_alloc_new ..
      have n1 : wx.cell? ⟨w6.heap.size, 1, none⟩ = some (.int .i64 p2) := by rw [← hwx]; exact World.cell?_alloc_new ..
      have m0 := below_cell' hbx (below_cell' hb k0)
      have m1 := below_cell' hbx (below_cell' hb k1)
      have HB6 := Lib.hid (HB5.out.trans ((hb.trans (hbx.mono hb.size)).mono HB5.out.size))
      clear hb hbx HM5 k0 k1 r0 r1 r2 r3
      go_wp2_with fail
      try rw [hwx]
      clear hwx
      refine (HID.out _).mono ?_
      rintro e w7 ⟨rfl, hb⟩
      have HB7 := Lib.hid (HB6.out.trans (hb.mono HB6.out.size))
      clear hb HID
      go_wp2
      go_ret
      exact ⟨rfl, HB7.out⟩
end Go.Proofs.YtmpphhkbjmjomaaGreatDoor.Hi
