/- ChooseGrows: the walk. -/
import Derived.Test.YtiiebakblkpkeaaGreatDoorWr
set_option maxRecDepth 100000
set_option maxHeartbeats 8000000
set_option linter.unusedVariables false
set_option linter.unusedSimpArgs false
namespace Go.Proofs.YtiiebakblkpkeaaGreatDoor.Hi
open Go.RowKit Go.Shelf Go.Sort Bs

theorem Built.laterC {B bw : Nat} {w0 w2 w4 w5 : World} {m : List EntM} (h : Built B bw w0 w2 m) (hb : Below w2.heap.size w2 w4) (c : ClsM) (hw' : HW (fun k => (B ≤ k ∧ k < w2.heap.size) ∨ (w4.heap.size ≤ k ∧ k < w5.heap.size)) bw w5 (defM m c)) (hc : Chg (fun k => B ≤ k ∧ k < w2.heap.size) w4 w5) :
    Built B bw w0 w5 (defM m c) where
  hw := hw'.mono fun k hk => by
    have := hc.size
    have := hb.size
    have := h.le
    rcases hk with hk | hk
    · exact ⟨hk.1, by omega⟩
    · exact ⟨by omega, hk.2⟩
  ord := defM_ord h.wf h.ord c
  below := (h.below.trans (hb.mono h.below.size)).trans (hc.below (Nat.le_trans h.below.size hb.size) fun k hk hf => by have := h.le; omega)
  le := ⟨h.le.1, Nat.le_trans h.le.2 (Nat.le_trans hb.size hc.size)⟩

theorem ChooseGrows (a : Option Addr) (cp : Nat) (xs : List ClsM) (cs : List Value) (c : ClsM) (d : Int) (hwd : (Lit.int .i64 d).wf = true) (kind : Int) (hwk : (Lit.int .i64 kind).wf = true) (r : RefM) (t : TyM) (w : World) (hx : ClsSl (fun b => b < w.heap.size) w (.slice a xs.length cp) xs) (hcl : ClsIs (fun b => b < w.heap.size) w cs c) (hr : r.cls.size ≤ maxLen ∧ r.name.size ≤ maxLen ∧ r.desc.size ≤ maxLen) (ht : t.name.size ≤ maxLen) (he : Lf.Env w) :
    Calls Tryz.prog 8 #[.slice a xs.length cp, .agg cs.toArray, .int .i64 d, .int .i64 kind, .agg #[.bool r.iface, .string r.cls, .string r.name, .string r.desc], .agg #[.int .i64 t.dims, .string t.name]] w fun e w' => e = .returned (.bool true) ∧ Below w.heap.size w w' := by
  have HSR := Lib.hid (And.intro hr.1 (And.intro hr.2.1 (And.intro hr.2.2 ht)))
  have HEW := Lib.hid he
  have HCL0 := Lib.hid hcl
  obtain ⟨iv, mv, rfl, p1, _, hi, _, _, hm⟩ := hcl
  obtain ⟨ia, ic, rfl, _⟩ := id hi
  obtain ⟨ma, mc, rfl, _⟩ := id hm
  rw [show [Value.string c.name, .string c.super, .slice ia c.ifaces.length ic, .int .i64 c.flags, .int .i64 c.loader, .slice ma c.meths.length mc].toArray = #[Value.string c.name, .string c.super, .slice ia c.ifaces.length ic, .int .i64 c.flags, .int .i64 c.loader, .slice ma c.meths.length mc] from rfl]
  obtain ⟨wp, hwp⟩ : ∃ wp, (w.alloc (.cells #[.string c.name, .string c.super, .slice ia c.ifaces.length ic, .int .i64 c.flags, .int .i64 c.loader, .slice ma c.meths.length mc] 62)) = wp := ⟨_, rfl⟩
  have hbp : Below w.heap.size w wp := by rw [← hwp]; exact (Below.refl _ _).alloc (Nat.le_refl _) _
  have hbox : wp.cell? ⟨w.heap.size, 0, none⟩ = some (.string c.name) ∧ wp.cell? ⟨w.heap.size, 1, none⟩ = some (.string c.super) ∧ wp.cell? ⟨w.heap.size, 2, none⟩ = some (.slice ia c.ifaces.length ic) ∧ wp.cell? ⟨w.heap.size, 3, none⟩ = some (.int .i64 c.flags) ∧ wp.cell? ⟨w.heap.size, 4, none⟩ = some (.int .i64 c.loader) ∧ wp.cell? ⟨w.heap.size, 5, none⟩ = some (.slice ma c.meths.length mc) := by
    rw [← hwp]
    exact ⟨World.cell?_alloc_new .., World.cell?_alloc_new .., World.cell?_alloc_new .., World.cell?_alloc_new .., World.cell?_alloc_new .., World.cell?_alloc_new ..⟩
  obtain ⟨wq, hwq⟩ : ∃ wq, (wp.alloc (.cells #[.bool r.iface, .string r.cls, .string r.name, .string r.desc] 30)) = wq := ⟨_, rfl⟩
  have hbq : Below wp.heap.size wp wq := by rw [← hwq]; exact (Below.refl _ _).alloc (Nat.le_refl _) _
  have hr0 : RefAt wq wp.heap.size r := by rw [← hwq]; exact RefAt.start wp r
  obtain ⟨wa, hwa⟩ : ∃ wa, (wq.alloc (.cells #[.int .i64 t.dims, .string t.name] 33)) = wa := ⟨_, rfl⟩
  have hbt : Below wq.heap.size wq wa := by rw [← hwa]; exact (Below.refl _ _).alloc (Nat.le_refl _) _
  have t0 : wa.cell? ⟨wq.heap.size, 0, none⟩ = some (.int .i64 t.dims) := by rw [← hwa]; exact World.cell?_alloc_new ..
  have t1 : wa.cell? ⟨wq.heap.size, 1, none⟩ = some (.string t.name) := by rw [← hwa]; exact World.cell?_alloc_new ..
  have hbqt := hbq.trans (hbt.mono hbq.size)
  have hba := hbp.trans (hbqt.mono hbp.size)
  have HBOX := Lib.hid (And.intro (below_cell' hbqt hbox.1) (And.intro (below_cell' hbqt hbox.2.1) (And.intro (below_cell' hbqt hbox.2.2.1) (And.intro (below_cell' hbqt hbox.2.2.2.1) (And.intro (below_cell' hbqt hbox.2.2.2.2.1) (below_cell' hbqt hbox.2.2.2.2.2))))))
  have HR0 := Lib.hid (hr0.next hbt)
  have HT0 := Lib.hid (And.intro t0 t1)
  have HX := Lib.hid (hx.nextO hba)
  have HE := Lib.hid (he.below hba)
  have HCL := Lib.hid (HCL0.out.next hba)
  have HB0 := Lib.hid hba
  have HAW := Lib.hid (awake12 wa)
  clear hx he hwd hwk hr ht hba hbox hi hm p1 HCL0 hbp hbq hbt hbqt hr0 t0 t1
  go_enter Tryz.func8, Tryz.ntmps8
  go_wp2_with fail
  try rw [hwp]
  try rw [hwq]
  try rw [hwa]
  clear hwp hwq hwa
  refine HAW.out.mono ?_
  rintro e w1 ⟨rfl, hb1⟩
  have HB1 := Lib.hid (HB0.out.trans (hb1.mono HB0.out.size))
  have HBU := Lib.hid (built12 a cp xs w1 (HX.out.nextO hb1) (HE.out.below hb1))
  have HR1 := Lib.hid (HR0.out.next hb1)
  have HT1 := Lib.hid (And.intro (below_cell' hb1 HT0.out.1) (below_cell' hb1 HT0.out.2))
  have HE1 := Lib.hid (HE.out.below hb1)
  have HCL1 := Lib.hid (HCL.out.next hb1)
  have g0 := below_cell' hb1 HBOX.out.1
  have g1 := below_cell' hb1 HBOX.out.2.1
  have g2 := below_cell' hb1 HBOX.out.2.2.1
  have g3 := below_cell' hb1 HBOX.out.2.2.2.1
  have g4 := below_cell' hb1 HBOX.out.2.2.2.2.1
  have g5 := below_cell' hb1 HBOX.out.2.2.2.2.2
  clear hb1 HB0 HX HE HAW HR0 HCL HBOX HT0
  go_wp2_with fail
  refine HBU.out.mono ?_
  rintro e w2 ⟨rfl, h2⟩
  have H2 := Lib.hid h2
  have HR2 := Lib.hid (HR1.out.next h2.below)
  have HE2 := Lib.hid (HE1.out.below h2.below)
  have HCL2 := Lib.hid (HCL1.out.next h2.below)
  have hb12 := h2.below
  have q0 := below_cell' hb12 g0
  have q1 := below_cell' hb12 g1
  have q2 := below_cell' hb12 g2
  have q3 := below_cell' hb12 g3
  have q4 := below_cell' hb12 g4
  have q5 := below_cell' hb12 g5
  have t0 := below_cell' hb12 HT1.out.1
  have t1 := below_cell' hb12 HT1.out.2
  have HSZ : Hid (w.heap.size < w1.heap.size ∧ wp.heap.size < w1.heap.size ∧ wq.heap.size < w1.heap.size) := Lib.hid ⟨World.block_lt_of_cell? _ _ g0, World.block_lt_of_cell? _ _ HR1.out.r0, World.block_lt_of_cell? _ _ HT1.out.1⟩
  clear h2 hb12 HBU HR1 HE1 HCL1 g0 g1 g2 g3 g4 g5 HT1
  generalize w1.heap.size = B at H2 HSZ
  generalize defs xs = m at H2
  have HWF := Lib.hid H2.out.wf
  have HO := Lib.hid H2.out.ord
  have HBL : Hid (Below w.heap.size w w2) := Lib.hid (HB1.out.trans (H2.out.below.mono HB1.out.size))
  have r0 := HR2.out.r0
  have r1 := HR2.out.r1
  have r2 := HR2.out.r2
  have r3 := HR2.out.r3
  have HM := Lib.hid (CCall H2.out d kind r t HSR.out.1 HSR.out.2.1 HSR.out.2.2.1 HSR.out.2.2.2 HE2.out)
  have HLT := Lib.hid (fun h3 h20 => call_later HWF.out HO.out c (d := d) (kind := kind) (r := r) (t := t) h3 h20)
  obtain ⟨R, hR⟩ : ∃ R, callE m d kind r t = R := ⟨_, rfl⟩
  rw [hR] at HM HLT
  obtain ⟨⟨p1, p2⟩, er⟩ := R
  simp only at HM HLT
  clear hR
  go_wp2_with fail
  refine HM.out.mono ?_
  rintro e w3 ⟨rfl, hb⟩
  obtain ⟨wx, hwx⟩ : ∃ wx, (w3.alloc (.cells #[.int .i64 p1, .int .i64 p2] 24)) = wx := ⟨_, rfl⟩
  have hbx : Below w3.heap.size w3 wx := by rw [← hwx]; exact (Below.refl _ _).alloc (Nat.le_refl _) _
  have m0 : wx.cell? ⟨w3.heap.size, 0, none⟩ = some (.int .i64 p1) := by rw [← hwx]; exact World.cell?_alloc_new ..
  have m1 : wx.cell? ⟨w3.heap.size, 1, none⟩ = some (.int .i64 p2) := by rw [← hwx]; exact World.cell?_alloc_new ..
  have hb3 := hb.trans (hbx.mono hb.size)
  have HB3 := Lib.hid hb3
  have s0 := below_cell' hb3 q0
  have s1 := below_cell' hb3 q1
  have s2 := below_cell' hb3 q2
  have s3 := below_cell' hb3 q3
  have s4 := below_cell' hb3 q4
  have s5 := below_cell' hb3 q5
  have HRX := Lib.hid (HR2.out.next hb3)
  have HTX := Lib.hid (And.intro (below_cell' hb3 t0) (below_cell' hb3 t1))
  have HMX := Lib.hid (And.intro m0 m1)
  have HDF := Lib.hid (Define (H2.out.hw.alike hb3.size (Alike.of_below hb3 H2.out.live)) HO.out.short (HCL2.out.next hb3) (fun k hk => hk) (fun k hk => Nat.lt_of_lt_of_le hk.2 hb3.size) (HE2.out.below hb3))
  rw [show [Value.string c.name, .string c.super, .slice ia c.ifaces.length ic, .int .i64 c.flags, .int .i64 c.loader, .slice ma c.meths.length mc].toArray = #[Value.string c.name, .string c.super, .slice ia c.ifaces.length ic, .int .i64 c.flags, .int .i64 c.loader, .slice ma c.meths.length mc] from rfl] at HDF
  have HW3 : Hid (w2.heap.size ≤ w3.heap.size ∧ w3.heap.size < wx.heap.size) := Lib.hid ⟨hb.size, World.block_lt_of_cell? _ _ m0⟩
  clear hb hbx hb3 HM q0 q1 q2 q3 q4 q5 r0 r1 r2 r3 t0 t1 HR2 m0 m1
  have HBF := Lib.hid (HBL.out.trans (HB3.out.mono HBL.out.size))
  by_cases h3 : er = 3
  · subst h3
    clear HLT HDF s0 s1 s2 s3 s4 s5
    go_wp2
    try rw [hwx]
    go_ret
    exact ⟨rfl, HBF.out⟩
  have h3' : (er == 3) = false := by simpa using h3
  by_cases h20 : er = 20
  · subst h20
    clear HLT HDF s0 s1 s2 s3 s4 s5 h3
    go_wp2
    try rw [hwx]
    go_ret
    exact ⟨rfl, HBF.out⟩
  have h20' : (er == 20) = false := by simpa using h20
  have HEQ := Lib.hid (HLT.out h3 h20)
  clear HLT h3 h20
  go_wp2_with fail
  try rw [hwx]
  clear hwx
  refine HDF.out.mono ?_
  rintro e w5 ⟨rfl, hw5, hc5⟩
  have H5 := Lib.hid (H2.out.laterC HB3.out c hw5 hc5)
  have k0 := hc5.cell_eq HMX.out.1 (by have := HW3.out; simp only; omega)
  have k1 := hc5.cell_eq HMX.out.2 (by have := HW3.out; simp only; omega)
  have r0 := hc5.cell_eq HRX.out.r0 (by have := HSZ.out; simp only; omega)
  have r1 := hc5.cell_eq HRX.out.r1 (by have := HSZ.out; simp only; omega)
  have r2 := hc5.cell_eq HRX.out.r2 (by have := HSZ.out; simp only; omega)
  have r3 := hc5.cell_eq HRX.out.r3 (by have := HSZ.out; simp only; omega)
  have t0 := hc5.cell_eq HTX.out.1 (by have := HSZ.out; simp only; omega)
  have t1 := hc5.cell_eq HTX.out.2 (by have := HSZ.out; simp only; omega)
  have hb5 : Below w.heap.size w w5 := (HBL.out.trans (HB3.out.mono HBL.out.size)).trans (hc5.below (Nat.le_trans HBL.out.size HB3.out.size) (fun k hk hf => by have := HSZ.out; omega))
  have HB5 := Lib.hid hb5
  have he5 : Lf.Env w5 := HEW.out.below hb5
  have HM5 := Lib.hid (CCall H5.out d kind r t HSR.out.1 HSR.out.2.1 HSR.out.2.2.1 HSR.out.2.2.2 he5)
  rw [HEQ.out] at HM5
  simp only at HM5
  have HID := Lib.hid (fun w => RID p1 p2 p1 p2 w)
  rw [beq_self_eq_true, beq_self_eq_true] at HID
  clear hw5 hc5 hb5 he5 HDF s0 s1 s2 s3 s4 s5 HRX HTX HMX HEQ
  go_wp2_with fail
  refine HM5.out.mono ?_
  rintro e w6 ⟨rfl, hb⟩
  obtain ⟨wy, hwy⟩ : ∃ wy, (w6.alloc (.cells #[.int .i64 p1, .int .i64 p2] 24)) = wy := ⟨_, rfl⟩
  have hby : Below w6.heap.size w6 wy := by rw [← hwy]; exact (Below.refl _ _).alloc (Nat.le_refl _) _
  have n0 : wy.cell? ⟨w6.heap.size, 0, none⟩ = some (.int .i64 p1) := by rw [← hwy]; exact World.cell?_alloc_new ..
  have n1 : wy.cell? ⟨w6.heap.size, 1, none⟩ = some (.int .i64 p2) := by rw [← hwy]; exact World.cell?_alloc_new ..
  have m0 := below_cell' hby (below_cell' hb k0)
  have m1 := below_cell' hby (below_cell' hb k1)
  have HB6 := Lib.hid (HB5.out.trans ((hb.trans (hby.mono hb.size)).mono HB5.out.size))
  clear hb hby HM5 k0 k1 r0 r1 r2 r3 t0 t1
  go_wp2_with fail
  try rw [hwy]
  clear hwy
  refine (HID.out _).mono ?_
  rintro e w7 ⟨rfl, hb⟩
  have HB7 := Lib.hid (HB6.out.trans (hb.mono HB6.out.size))
  clear hb HID
  go_wp2
  go_ret
  exact ⟨rfl, HB7.out⟩
end Go.Proofs.YtiiebakblkpkeaaGreatDoor.Hi
