/- Access: is a class, a type, a method open? -/
import Derived.Test.YtmpphhkbjmjomaaGreatDoorRa
import Derived.Test.YtmpphhkbjmjomaaGreatDoorRf
set_option maxRecDepth 100000
set_option maxHeartbeats 1000000
set_option linter.unusedVariables false
set_option linter.unusedSimpArgs false
namespace Go.Proofs.YtmpphhkbjmjomaaGreatDoor.Hi
open Go.RowKit Bs

def homeB (c d : ClsM) : Bool := (c.loader == d.loader) && ((pkgM c.name).toList == (pkgM d.name).toList)
def classOpenM (m : List EntM) (i j : Nat) : Bool := (bits .and .i64 (clsAt m j).flags 1 != 0) || homeB (clsAt m i) (clsAt m j)

theorem HomeOf2 {B bw : Nat} {w0 w : World} {m : List EntM} (h : Built B bw w0 w m) {i : Nat} (hi : i < m.length) :
    Calls Tryz.prog 31 #[.pointer (some ⟨bw, 0, none⟩), .int .i64 i] w fun r w' => ∃ (ia ma : Option Addr) (il ic ml mc : Nat), r = .returned (.tuple #[.agg #[.int .i64 m[i].c.loader, .string (pkgM m[i].c.name)], .agg #[.string m[i].c.name, .string m[i].c.super, .slice ia il ic, .int .i64 m[i].c.flags, .int .i64 m[i].c.loader, .slice ma ml mc], .int .i64 0]) ∧ Below w.heap.size w w' :=
  (HomeOf h hi).mono fun r w' ⟨cs', h1, h2, h3⟩ => by
    obtain ⟨iv, mv, rfl, _⟩ := id h2
    obtain ⟨ia, ic, rfl, _⟩ := (ClsIs.shape h2).1
    obtain ⟨ma, mc, rfl, _⟩ := (ClsIs.shape h2).2
    exact ⟨_, _, _, _, _, _, h1, h3⟩

theorem ClassOpen {B bw : Nat} {w0 w : World} {m : List EntM} (h : Built B bw w0 w m) {i j : Nat} (hi : i < m.length) (hj : j < m.length) :
    Calls Tryz.prog 33 #[.pointer (some ⟨bw, 0, none⟩), .int .i64 i, .int .i64 j] w fun r w' => r = .returned (.tuple #[.bool (classOpenM m i j), .int .i64 0]) ∧ Below w.heap.size w w' := by
  have H1 := Lib.hid (HomeOf2 h hi)
  have H2 := Lib.hid (fun wr (hr : Below w.heap.size w wr) => HomeOf2 (h.next hr) hj)
  have HE : Hid (classOpenM m i j = ((bits .and .i64 m[j].c.flags 1 != 0) || ((m[i].c.loader == m[j].c.loader) && ((pkgM m[i].c.name).toList == (pkgM m[j].c.name).toList)))) := Lib.hid (by unfold classOpenM homeB; rw [clsAt_at hi, clsAt_at hj])
  generalize classOpenM m i j = R at *
  generalize m[i].c = c at *
  generalize m[j].c = d at *
  clear h
  generalize pkgM c.name = pc at *
  generalize pkgM d.name = pd at *
  generalize c.loader = lc at *
  generalize d.loader = ld at *
  generalize c.name = nc at *
  generalize d.name = nd at *
  go_enter Tryz.func33, Tryz.ntmps33
  go_wp2_with fail
  refine H1.out.mono ?_
  rintro _ w1 ⟨ia, ma, il, ic, ml, mc, rfl, hb⟩
  obtain ⟨wx, hwx⟩ : ∃ wx, ((w1.alloc (.cells #[.int .i64 lc, .string pc] 83)).alloc (.cells #[.string nc, .string c.super, .slice ia il ic, .int .i64 c.flags, .int .i64 lc, .slice ma ml mc] 54)) = wx := ⟨_, rfl⟩
  have hbx : Below w1.heap.size w1 wx := by rw [← hwx]; exact ((Below.refl _ _).alloc (Nat.le_refl _) _).alloc (by simp) _
  have k0 : wx.cell? ⟨w1.heap.size, 0, none⟩ = some (.int .i64 lc) := by rw [← hwx]; exact alloc_old (World.cell?_alloc_new ..)
  have k1 : wx.cell? ⟨w1.heap.size, 1, none⟩ = some (.string pc) := by rw [← hwx]; exact alloc_old (World.cell?_alloc_new ..)
  have HBX : Hid (Below w.heap.size w wx) := Lib.hid (hb.trans (hbx.mono hb.size))
  have HX := Lib.hid (H2.out wx HBX.out)
  clear hb H1 H2 hbx
  go_wp2_with fail
  try rw [hwx]
  clear hwx
  refine HX.out.mono ?_
  rintro _ w2 ⟨ia2, ma2, il2, ic2, ml2, mc2, rfl, hb⟩
  obtain ⟨wy, hwy⟩ : ∃ wy, ((w2.alloc (.cells #[.int .i64 ld, .string pd] 83)).alloc (.cells #[.string nd, .string d.super, .slice ia2 il2 ic2, .int .i64 d.flags, .int .i64 ld, .slice ma2 ml2 mc2] 54)) = wy := ⟨_, rfl⟩
  have hby : Below w2.heap.size w2 wy := by rw [← hwy]; exact ((Below.refl _ _).alloc (Nat.le_refl _) _).alloc (by simp) _
  have q0 := below_cell' hby (below_cell' hb k0)
  have q1 := below_cell' hby (below_cell' hb k1)
  have p0 : wy.cell? ⟨w2.heap.size, 0, none⟩ = some (.int .i64 ld) := by rw [← hwy]; exact alloc_old (World.cell?_alloc_new ..)
  have p1 : wy.cell? ⟨w2.heap.size, 1, none⟩ = some (.string pd) := by rw [← hwy]; exact alloc_old (World.cell?_alloc_new ..)
  have p3 : wy.cell? ⟨w2.heap.size + 1, 3, none⟩ = some (.int .i64 d.flags) := by
    rw [← hwy]
    have := World.cell?_alloc_new (w2.alloc (.cells #[.int .i64 ld, .string pd] 83)) #[.string nd, .string d.super, .slice ia2 il2 ic2, .int .i64 d.flags, .int .i64 ld, .slice ma2 ml2 mc2] 54 3
    rw [World.size_alloc] at this
    exact this
  have HBY := Lib.hid ((HBX.out.trans (hb.mono HBX.out.size)).trans (hby.mono (Nat.le_trans HBX.out.size hb.size)))
  clear hb hby k0 k1 HX HBX
  cases hf : (bits .and .i64 d.flags 1 != 0)
  · rw [hf, Bool.false_or] at HE
    by_cases hl : lc = ld
    · subst hl
      rw [beq_self_eq_true, Bool.true_and] at HE
      by_cases hp : pc.toList = pd.toList
      · have G : Hid (R = true) := Lib.hid (by rw [HE.out, hp, beq_self_eq_true])
        go_wp2
        go_ret2
        exact ⟨by rw [G.out]; rfl, HBY.out⟩
      · have G : Hid (R = false) := Lib.hid (by rw [HE.out]; exact beq_eq_false_iff_ne.2 hp)
        go_wp2
        go_ret2
        exact ⟨by rw [G.out]; rfl, HBY.out⟩
    · have G : Hid (R = false) := Lib.hid (by rw [HE.out, beq_eq_false_iff_ne.2 hl, Bool.false_and])
      go_wp2
      go_ret2
      exact ⟨by rw [G.out]; rfl, HBY.out⟩
  · rw [hf, Bool.true_or] at HE
    go_wp2
    go_ret2
    exact ⟨by rw [HE.out]; rfl, HBY.out⟩

/-- A class type that is there: what its class says. -/
theorem TypeOpen_class {B bw : Nat} {w0 w : World} {m : List EntM} (h : Built B bw w0 w m) {i j : Nat} (hi : i < m.length) (hj : j < m.length) (t : TyM) (hs : t.name.size ≤ maxLen) (he : Lf.Env w) (hl : loadedE m t = 0) (hE : t.name.toList.isEmpty = false) (hn : byNameM m t.name = ((j : Int), 0)) :
    Calls Tryz.prog 16 #[.pointer (some ⟨bw, 0, none⟩), .int .i64 i, .agg #[.int .i64 t.dims, .string t.name]] w fun r w' => r = .returned (.tuple #[.bool (classOpenM m i j), .int .i64 0]) ∧ Below w.heap.size w w' := by
  have hb : Below w.heap.size w (w.alloc (.cells #[.int .i64 t.dims, .string t.name] 34)) := (Below.refl _ _).alloc (Nat.le_refl _) _
  have HB := Lib.hid hb
  have H1 := Lib.hid (HomeOf2 (h.next hb) hi)
  have HL := Lib.hid (fun wr (hr : Below w.heap.size w wr) => Loaded (h.next hr) t hs (he.below hr))
  rw [hl] at HL
  have HN := Lib.hid (fun wr (hr : Below w.heap.size w wr) => ByName (h.next hr).hw t.name hs)
  rw [hn] at HN
  have HO := Lib.hid (fun wr (hr : Below w.heap.size w wr) => ClassOpen (h.next hr) hi hj)
  have hE' : (!t.name.toList.isEmpty) = true := by rw [hE]; rfl
  have q0 : (w.alloc (.cells #[.int .i64 t.dims, .string t.name] 34)).cell? ⟨w.heap.size, 0, none⟩ = some (.int .i64 t.dims) := World.cell?_alloc_new ..
  have q1 : (w.alloc (.cells #[.int .i64 t.dims, .string t.name] 34)).cell? ⟨w.heap.size, 1, none⟩ = some (.string t.name) := World.cell?_alloc_new ..
  unfold TyM.val at *
  clear h he hl hn hb hs
  generalize classOpenM m i j = R at *
  generalize m[i].c = c at *
  generalize pkgM c.name = pc at *
  generalize t.dims = dm at *
  generalize t.name = nm at *
  go_enter Tryz.func16, Tryz.ntmps16
  go_wp2_with fail
  refine H1.out.mono ?_
  rintro _ w1 ⟨ia, ma, il, ic, ml, mc, rfl, hb⟩
  obtain ⟨wx, hwx⟩ : ∃ wx, ((w1.alloc (.cells #[.int .i64 c.loader, .string pc] 83)).alloc (.cells #[.string c.name, .string c.super, .slice ia il ic, .int .i64 c.flags, .int .i64 c.loader, .slice ma ml mc] 54)) = wx := ⟨_, rfl⟩
  have hbx : Below w1.heap.size w1 wx := by rw [← hwx]; exact ((Below.refl _ _).alloc (Nat.le_refl _) _).alloc (by simp) _
  have k0 := below_cell' hbx (below_cell' hb q0)
  have k1 := below_cell' hbx (below_cell' hb q1)
  have HBX : Hid (Below w.heap.size w wx) := Lib.hid ((HB.out.trans (hb.mono HB.out.size)).trans (hbx.mono (Nat.le_trans HB.out.size hb.size)))
  have HLX := Lib.hid (HL.out wx HBX.out)
  clear hb hbx q0 q1 HB H1 HL
  go_wp2_with fail
  try rw [hwx]
  clear hwx
  refine HLX.out.mono ?_
  rintro _ w2 ⟨rfl, hb⟩
  have q0 := below_cell' hb k0
  have q1 := below_cell' hb k1
  have HB2 := Lib.hid (HBX.out.trans (hb.mono HBX.out.size))
  have HNX := Lib.hid (HN.out w2 HB2.out)
  have HOX := Lib.hid (HO.out w2 HB2.out)
  clear hb k0 k1 HLX HBX HN HO
  go_wp2_with fail
  refine HNX.out.mono ?_
  rintro _ w3 ⟨rfl, rfl⟩
  go_wp2_with fail
  refine HOX.out.mono ?_
  rintro _ w3 ⟨rfl, hb⟩
  have HB3 := Lib.hid (HB2.out.trans (hb.mono HB2.out.size))
  clear hb
  go_wp2
  go_ret2
  exact ⟨rfl, HB3.out⟩
end Go.Proofs.YtmpphhkbjmjomaaGreatDoor.Hi
