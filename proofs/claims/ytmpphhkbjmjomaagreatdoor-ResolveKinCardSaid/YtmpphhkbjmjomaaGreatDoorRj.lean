/- Access: a public method of one's own class. -/
import Derived.Test.YtmpphhkbjmjomaaGreatDoorRi
set_option maxRecDepth 100000
set_option maxHeartbeats 1000000
set_option linter.unusedVariables false
set_option linter.unusedSimpArgs false
namespace Go.Proofs.YtmpphhkbjmjomaaGreatDoor.Hi
open Go.RowKit Bs

theorem Class2 {B bw : Nat} {w0 w : World} {m : List EntM} (h : Built B bw w0 w m) {i : Nat} (hi : i < m.length) :
    Calls Tryz.prog 20 #[.pointer (some ⟨bw, 0, none⟩), .int .i64 i] w fun r w' => ∃ (v0 v1 : ByteArray) (ia ma : Option Addr) (il ic ml mc : Nat) (f l : Int), r = .returned (.tuple #[.agg #[.string v0, .string v1, .slice ia il ic, .int .i64 f, .int .i64 l, .slice ma ml mc], .int .i64 0]) ∧ Below w.heap.size w w' :=
  (Class_in h.hw h.live (entAt_nat hi)).mono fun r w' ⟨cs', h1, h2, h3⟩ => by
    obtain ⟨iv, mv, rfl, _⟩ := id h2
    obtain ⟨ia, ic, rfl, _⟩ := (ClsIs.shape h2).1
    obtain ⟨ma, mc, rfl, _⟩ := (ClsIs.shape h2).2
    exact ⟨_, _, _, _, _, _, _, _, _, _, h1, h3⟩

theorem Method2 {B bw : Nat} {w0 w : World} {m : List EntM} (h : Built B bw w0 w m) {i b : Nat} (hi : i < m.length) (hb : b < m[i].c.meths.length) :
    Calls Tryz.prog 11 #[.pointer (some ⟨bw, 0, none⟩), .agg #[.int .i64 i, .int .i64 b]] w fun r w' => ∃ (ad : Option Addr) (q c : Nat), r = .returned (.tuple #[.agg #[.string m[i].c.meths[b].name, .string m[i].c.meths[b].desc, .int .i64 m[i].c.meths[b].flags, .int .i64 m[i].c.meths[b].locals, .int .i64 m[i].c.meths[b].stack, .slice ad q c], .int .i64 0]) ∧ Below w.heap.size w w' :=
  (Method_in h.hw h.live (entAt_nat hi) hb).mono fun r w' ⟨cs', h1, h2, h3⟩ => by
    obtain ⟨cv, rfl, _, _, _, _, _, hi⟩ := h2
    obtain ⟨ad, c, rfl, _⟩ := hi
    exact ⟨_, _, _, h1, h3⟩

theorem MethodOpen_own {B bw : Nat} {w0 w : World} {m : List EntM} (h : Built B bw w0 w m) {i j b : Nat} (hi : i < m.length) (hj : j < m.length) (hb : b < m[i].c.meths.length) (ho : openM m[i].c.meths[b].flags = 1) :
    Calls Tryz.prog 15 #[.pointer (some ⟨bw, 0, none⟩), .int .i64 i, .agg #[.int .i64 i, .int .i64 b], .int .i64 j] w fun r w' => r = .returned (.tuple #[.bool true, .int .i64 0]) ∧ Below w.heap.size w w' := by
  have hba : Below w.heap.size w (w.alloc (.cells #[.int .i64 i, .int .i64 b] 29)) := (Below.refl _ _).alloc (Nat.le_refl _) _
  have HB := Lib.hid hba
  have H1 := Lib.hid (fun wr (hr : Below w.heap.size w wr) => HomeOf2 (h.next hr) hi)
  have HC := Lib.hid (fun wr (hr : Below w.heap.size w wr) => Class2 (h.next hr) hj)
  have HM := Lib.hid (fun wr (hr : Below w.heap.size w wr) => Method2 (h.next hr) hi hb)
  have HF := Lib.hid (fun wr => FOpen m[i].c.meths[b].flags wr)
  rw [ho] at HF
  have q0 : (w.alloc (.cells #[.int .i64 i, .int .i64 b] 29)).cell? ⟨w.heap.size, 0, none⟩ = some (.int .i64 i) := World.cell?_alloc_new ..
  have q1 : (w.alloc (.cells #[.int .i64 i, .int .i64 b] 29)).cell? ⟨w.heap.size, 1, none⟩ = some (.int .i64 b) := World.cell?_alloc_new ..
  have H1X := Lib.hid (H1.out _ hba)
  generalize m[i].c.meths[b] = x at HM HF
  clear h hba hb ho
  generalize m[i].c = c at *
  generalize pkgM c.name = pc at *
  go_enter Tryz.func15, Tryz.ntmps15
  go_wp2_with fail
  refine H1X.out.mono ?_
  rintro _ w1 ⟨ia, ma, il, ic, ml, mc, rfl, hb⟩
  obtain ⟨wx, hwx⟩ : ∃ wx, ((w1.alloc (.cells #[.int .i64 c.loader, .string pc] 83)).alloc (.cells #[.string c.name, .string c.super, .slice ia il ic, .int .i64 c.flags, .int .i64 c.loader, .slice ma ml mc] 54)) = wx := ⟨_, rfl⟩
  have hbx : Below w1.heap.size w1 wx := by rw [← hwx]; exact ((Below.refl _ _).alloc (Nat.le_refl _) _).alloc (by simp) _
  have k0 := below_cell' hbx (below_cell' hb q0)
  have k1 := below_cell' hbx (below_cell' hb q1)
  have a0 : wx.cell? ⟨w1.heap.size, 0, none⟩ = some (.int .i64 c.loader) := by rw [← hwx]; exact alloc_old (World.cell?_alloc_new ..)
  have a1 : wx.cell? ⟨w1.heap.size, 1, none⟩ = some (.string pc) := by rw [← hwx]; exact alloc_old (World.cell?_alloc_new ..)
  have HBX : Hid (Below w.heap.size w wx) := Lib.hid ((HB.out.trans (hb.mono HB.out.size)).trans (hbx.mono (Nat.le_trans HB.out.size hb.size)))
  have HCX := Lib.hid (HC.out wx HBX.out)
  clear hb hbx q0 q1 HB H1X HC
  go_wp2_with fail
  try rw [hwx]
  clear hwx
  refine HCX.out.mono ?_
  rintro _ w2 ⟨v0, v1, ia2, ma2, il2, ic2, ml2, mc2, f2, l2, rfl, hb⟩
  obtain ⟨wy, hwy⟩ : ∃ wy, (w2.alloc (.cells #[.string v0, .string v1, .slice ia2 il2 ic2, .int .i64 f2, .int .i64 l2, .slice ma2 ml2 mc2] 54)) = wy := ⟨_, rfl⟩
  have hby : Below w2.heap.size w2 wy := by rw [← hwy]; exact (Below.refl _ _).alloc (Nat.le_refl _) _
  have q0 := below_cell' hby (below_cell' hb k0)
  have q1 := below_cell' hby (below_cell' hb k1)
  have b0 := below_cell' hby (below_cell' hb a0)
  have b1 := below_cell' hby (below_cell' hb a1)
  have HBY : Hid (Below w.heap.size w wy) := Lib.hid ((HBX.out.trans (hb.mono HBX.out.size)).trans (hby.mono (Nat.le_trans HBX.out.size hb.size)))
  have HMX := Lib.hid (HM.out wy HBY.out)
  clear hb hby k0 k1 a0 a1 HBX HCX HM
  go_wp2_with fail
  try rw [hwy]
  clear hwy
  refine HMX.out.mono ?_
  rintro _ w3 ⟨ad3, q3, c3, rfl, hb⟩
  obtain ⟨wz, hwz⟩ : ∃ wz, (w3.alloc (.cells #[.string x.name, .string x.desc, .int .i64 x.flags, .int .i64 x.locals, .int .i64 x.stack, .slice ad3 q3 c3] 40)) = wz := ⟨_, rfl⟩
  have hbz : Below w3.heap.size w3 wz := by rw [← hwz]; exact (Below.refl _ _).alloc (Nat.le_refl _) _
  have k0 := below_cell' hbz (below_cell' hb q0)
  have k1 := below_cell' hbz (below_cell' hb q1)
  have a0 := below_cell' hbz (below_cell' hb b0)
  have a1 := below_cell' hbz (below_cell' hb b1)
  have x2 : wz.cell? ⟨w3.heap.size, 2, none⟩ = some (.int .i64 x.flags) := by rw [← hwz]; exact World.cell?_alloc_new ..
  have HBZ : Hid (Below w.heap.size w wz) := Lib.hid ((HBY.out.trans (hb.mono HBY.out.size)).trans (hbz.mono (Nat.le_trans HBY.out.size hb.size)))
  have H1X := Lib.hid (H1.out wz HBZ.out)
  clear hb hbz q0 q1 b0 b1 HBY HMX H1
  go_wp2_with fail
  try rw [hwz]
  clear hwz
  refine H1X.out.mono ?_
  rintro _ w4 ⟨ia4, ma4, il4, ic4, ml4, mc4, rfl, hb⟩
  obtain ⟨wx, hwx⟩ : ∃ wx, ((w4.alloc (.cells #[.int .i64 c.loader, .string pc] 83)).alloc (.cells #[.string c.name, .string c.super, .slice ia4 il4 ic4, .int .i64 c.flags, .int .i64 c.loader, .slice ma4 ml4 mc4] 54)) = wx := ⟨_, rfl⟩
  have hbx : Below w4.heap.size w4 wx := by rw [← hwx]; exact ((Below.refl _ _).alloc (Nat.le_refl _) _).alloc (by simp) _
  have q0 := below_cell' hbx (below_cell' hb k0)
  have q1 := below_cell' hbx (below_cell' hb k1)
  have b0 := below_cell' hbx (below_cell' hb a0)
  have b1 := below_cell' hbx (below_cell' hb a1)
  have y2 := below_cell' hbx (below_cell' hb x2)
  have e0 : wx.cell? ⟨w4.heap.size, 0, none⟩ = some (.int .i64 c.loader) := by rw [← hwx]; exact alloc_old (World.cell?_alloc_new ..)
  have e1 : wx.cell? ⟨w4.heap.size, 1, none⟩ = some (.string pc) := by rw [← hwx]; exact alloc_old (World.cell?_alloc_new ..)
  have HBW : Hid (Below w.heap.size w wx) := Lib.hid ((HBZ.out.trans (hb.mono HBZ.out.size)).trans (hbx.mono (Nat.le_trans HBZ.out.size hb.size)))
  have HFX := Lib.hid (HF.out wx)
  clear hb hbx k0 k1 a0 a1 x2 HBZ H1X HF
  go_wp2_with fail
  try rw [hwx]
  clear hwx
  refine HFX.out.mono ?_
  rintro _ w5 ⟨rfl, rfl⟩
  go_wp2
  go_ret2
  exact ⟨rfl, HBW.out⟩
end Go.Proofs.YtmpphhkbjmjomaaGreatDoor.Hi
