/- Access in general: a method; a type that is int or an array of it; holders. -/
import Derived.Test.YtmpphhkbjmjomaaGreatDoorUa
set_option maxRecDepth 100000
set_option maxHeartbeats 2000000
set_option linter.unusedVariables false
set_option linter.unusedSimpArgs false
namespace Go.Proofs.YtmpphhkbjmjomaaGreatDoor.Hi
open Go.RowKit Bs

/-- Is a method open to a class, reached by another one? -/
def moM (m : List EntM) (i : Nat) (a : Nat) (f : Int) (j : Nat) : Bool :=
  if openM f = 1 then true
  else if openM f = 2 then decide (a = i)
  else if homeB (clsAt m i) (clsAt m a) = true then true
  else if openM f = 4 ∧ isIfaceM m a = false ∧ extM m i a = true then ((bits .and .i64 f 8 != 0) || (extM m j i || extM m i j))
  else false

theorem MethodOpen_any {B bw : Nat} {w0 w : World} {m : List EntM} (h : Built B bw w0 w m) {i j a b : Nat} (hi : i < m.length) (hj : j < m.length) (ha : a < m.length) (hb : b < m[a].c.meths.length) :
    Calls Tryz.prog 15 #[.pointer (some ⟨bw, 0, none⟩), .int .i64 i, .agg #[.int .i64 a, .int .i64 b], .int .i64 j] w fun r w' => r = .returned (.tuple #[.bool (moM m i a m[a].c.meths[b].flags j), .int .i64 0]) ∧ Below w.heap.size w w' := by
  have hba : Below w.heap.size w (w.alloc (.cells #[.int .i64 a, .int .i64 b] 29)) := (Below.refl _ _).alloc (Nat.le_refl _) _
  have HB := Lib.hid hba
  have H1 := Lib.hid (HomeOf2 (h.next hba) hi)
  have H2 := Lib.hid (fun wr (hr : Below w.heap.size w wr) => HomeOf2 (h.next hr) ha)
  have HC := Lib.hid (fun wr (hr : Below w.heap.size w wr) => Class2 (h.next hr) hj)
  have HM := Lib.hid (fun wr (hr : Below w.heap.size w wr) => Method2 (h.next hr) ha hb)
  have HF := Lib.hid (fun wr => FOpen m[a].c.meths[b].flags wr)
  have HI := Lib.hid (fun wr (hr : Below w.heap.size w wr) => (h.next hr).isIface a)
  have HX1 := Lib.hid (fun wr (hr : Below w.heap.size w wr) => (h.next hr).extends i a)
  have HX2 := Lib.hid (fun wr (hr : Below w.heap.size w wr) => (h.next hr).extends j i)
  have HX3 := Lib.hid (fun wr (hr : Below w.heap.size w wr) => (h.next hr).extends i j)
  have HE : Hid (moM m i a m[a].c.meths[b].flags j = if openM m[a].c.meths[b].flags = 1 then true else if openM m[a].c.meths[b].flags = 2 then decide (a = i) else if ((m[i].c.loader == m[a].c.loader) && ((pkgM m[i].c.name).toList == (pkgM m[a].c.name).toList)) = true then true else if openM m[a].c.meths[b].flags = 4 ∧ isIfaceM m a = false ∧ extM m i a = true then ((bits .and .i64 m[a].c.meths[b].flags 8 != 0) || (extM m j i || extM m i j)) else false) := Lib.hid (by unfold moM homeB; rw [clsAt_at hi, clsAt_at ha])
  have q0 : (w.alloc (.cells #[.int .i64 a, .int .i64 b] 29)).cell? ⟨w.heap.size, 0, none⟩ = some (.int .i64 a) := World.cell?_alloc_new ..
  have q1 : (w.alloc (.cells #[.int .i64 a, .int .i64 b] 29)).cell? ⟨w.heap.size, 1, none⟩ = some (.int .i64 b) := World.cell?_alloc_new ..
  generalize m[a].c.meths[b] = x at HM HF HE ⊢
  generalize moM m i a x.flags j = R at *
  generalize isIfaceM m a = ifa at *
  generalize extM m i a = x1 at *
  generalize extM m j i = x2 at *
  generalize extM m i j = x3 at *
  clear h hba hb
  generalize m[i].c = c at *
  generalize m[a].c = d at *
  generalize pkgM c.name = pc at *
  generalize pkgM d.name = pd at *
  generalize c.loader = lc at *
  generalize d.loader = ld at *
  generalize openM x.flags = o at *
  go_enter Tryz.func15, Tryz.ntmps15
  go_wp2_with fail
  refine H1.out.mono ?_
  rintro _ w1 ⟨ia, ma, il, ic, ml, mc, rfl, hb⟩
  obtain ⟨wx, hwx⟩ : ∃ wx, ((w1.alloc (.cells #[.int .i64 lc, .string pc] 83)).alloc (.cells #[.string c.name, .string c.super, .slice ia il ic, .int .i64 c.flags, .int .i64 lc, .slice ma ml mc] 54)) = wx := ⟨_, rfl⟩
  have hbx : Below w1.heap.size w1 wx := by rw [← hwx]; exact ((Below.refl _ _).alloc (Nat.le_refl _) _).alloc (by simp) _
  have k0 := below_cell' hbx (below_cell' hb q0)
  have k1 := below_cell' hbx (below_cell' hb q1)
  have a0 : wx.cell? ⟨w1.heap.size, 0, none⟩ = some (.int .i64 lc) := by rw [← hwx]; exact alloc_old (World.cell?_alloc_new ..)
  have a1 : wx.cell? ⟨w1.heap.size, 1, none⟩ = some (.string pc) := by rw [← hwx]; exact alloc_old (World.cell?_alloc_new ..)
  have HBX : Hid (Below w.heap.size w wx) := Lib.hid ((HB.out.trans (hb.mono HB.out.size)).trans (hbx.mono (Nat.le_trans HB.out.size hb.size)))
  have HCX := Lib.hid (HC.out wx HBX.out)
  clear hb hbx q0 q1 HB H1 HC
  go_wp2_with fail
  try rw [hwx]
  clear hwx
  refine HCX.out.mono ?_
  rintro _ w2 ⟨v0, v1, ia2, ma2, il2, ic2, ml2, mc2, f2, l2, rfl, hb⟩
  obtain ⟨wy, hwy⟩ : ∃ wy, (w2.alloc (.cells #[.string v0, .string v1, .slice ia2 il2 ic2, .int .i64 f2, .int .i64 l2, .slice ma2 ml2 mc2] 54)) = wy := ⟨_, rfl⟩
  have hby : Below w2.heap.size w2 wy := by rw [← hwy]; exact (Below.refl _ _).alloc (Nat.le_refl _) _
  have q0 := below_cell' hby (below_cell' hb k0)
  have q1 := below_cell' hby (below_cell' hb k1)
  have b0 := below_cell' hby (below_cell' hb a0)
  have b1 := below_cell' hby (below_cell' hb a1)
  have HBY : Hid (Below w.heap.size w wy) := Lib.hid ((HBX.out.trans (hb.mono HBX.out.size)).trans (hby.mono (Nat.le_trans HBX.out.size hb.size)))
  have HMX := Lib.hid (HM.out wy HBY.out)
  clear hb hby k0 k1 a0 a1 HBX HCX HM
  go_wp2_with fail
  try rw [hwy]
  clear hwy
  refine HMX.out.mono ?_
  rintro _ w3 ⟨ad3, q3, c3, rfl, hb⟩
  obtain ⟨wz, hwz⟩ : ∃ wz, (w3.alloc (.cells #[.string x.name, .string x.desc, .int .i64 x.flags, .int .i64 x.locals, .int .i64 x.stack, .slice ad3 q3 c3] 40)) = wz := ⟨_, rfl⟩
  have hbz : Below w3.heap.size w3 wz := by rw [← hwz]; exact (Below.refl _ _).alloc (Nat.le_refl _) _
  have k0 := below_cell' hbz (below_cell' hb q0)
  have k1 := below_cell' hbz (below_cell' hb q1)
  have a0 := below_cell' hbz (below_cell' hb b0)
  have a1 := below_cell' hbz (below_cell' hb b1)
  have x2' : wz.cell? ⟨w3.heap.size, 2, none⟩ = some (.int .i64 x.flags) := by rw [← hwz]; exact World.cell?_alloc_new ..
  have HBZ : Hid (Below w.heap.size w wz) := Lib.hid ((HBY.out.trans (hb.mono HBY.out.size)).trans (hbz.mono (Nat.le_trans HBY.out.size hb.size)))
  have H1X := Lib.hid (H2.out wz HBZ.out)
  clear hb hbz q0 q1 b0 b1 HBY HMX H2
  go_wp2_with fail
  try rw [hwz]
  clear hwz
  refine H1X.out.mono ?_
  rintro _ w4 ⟨ia4, ma4, il4, ic4, ml4, mc4, rfl, hb⟩
  obtain ⟨wx, hwx⟩ : ∃ wx, ((w4.alloc (.cells #[.int .i64 ld, .string pd] 83)).alloc (.cells #[.string d.name, .string d.super, .slice ia4 il4 ic4, .int .i64 d.flags, .int .i64 ld, .slice ma4 ml4 mc4] 54)) = wx := ⟨_, rfl⟩
  have hbx : Below w4.heap.size w4 wx := by rw [← hwx]; exact ((Below.refl _ _).alloc (Nat.le_refl _) _).alloc (by simp) _
  have q0 := below_cell' hbx (below_cell' hb k0)
  have q1 := below_cell' hbx (below_cell' hb k1)
  have b0 := below_cell' hbx (below_cell' hb a0)
  have b1 := below_cell' hbx (below_cell' hb a1)
  have y2 := below_cell' hbx (below_cell' hb x2')
  have e0 : wx.cell? ⟨w4.heap.size, 0, none⟩ = some (.int .i64 ld) := by rw [← hwx]; exact alloc_old (World.cell?_alloc_new ..)
  have e1 : wx.cell? ⟨w4.heap.size, 1, none⟩ = some (.string pd) := by rw [← hwx]; exact alloc_old (World.cell?_alloc_new ..)
  have HBW : Hid (Below w.heap.size w wx) := Lib.hid ((HBZ.out.trans (hb.mono HBZ.out.size)).trans (hbx.mono (Nat.le_trans HBZ.out.size hb.size)))
  have HFX := Lib.hid (HF.out wx)
  have HIX := Lib.hid (HI.out wx HBW.out)
  clear hb hbx k0 k1 a0 a1 x2' HBZ H1X HF HI
  obtain ⟨nr, hnr⟩ : ∃ nr, ((lc == ld) && (pc.toList == pd.toList)) = nr := ⟨_, rfl⟩
  rw [hnr] at HE
  have near : (lc = ld ∧ pc.toList = pd.toList ∧ nr = true) ∨ (lc = ld ∧ ¬ pc.toList = pd.toList ∧ nr = false) ∨ (¬ lc = ld ∧ nr = false) := by
    by_cases h1 : lc = ld
    · by_cases h2 : pc.toList = pd.toList
      · exact .inl ⟨h1, h2, by rw [← hnr, h1, h2]; simp⟩
      · exact .inr (.inl ⟨h1, h2, by rw [← hnr]; simp [h2]⟩)
    · exact .inr (.inr ⟨h1, by rw [← hnr]; simp [h1]⟩)
  clear hnr
  rcases near with ⟨rfl, hp, rfl⟩ | ⟨rfl, hp, rfl⟩ | ⟨hl, rfl⟩
  · go_wp2_with fail
    try rw [hwx]
    clear hwx
    refine HFX.out.mono ?_
    rintro _ w5 ⟨rfl, rfl⟩
    clear HFX e0 e1 b0 b1
    by_cases h1 : o = 1
    · have G : Hid (R = true) := Lib.hid (by rw [HE.out, if_pos h1])
      subst h1
      go_wp2
      go_ret2
      exact ⟨by rw [G.out]; rfl, HBW.out⟩
    have h1' : (o == 1) = false := by simpa using h1
    by_cases h2 : o = 2
    · have G : Hid (R = decide (a = i)) := Lib.hid (by rw [HE.out, if_neg h1, if_pos h2])
      subst h2
      by_cases hai : a = i
      · subst hai
        go_wp2
        go_ret2
        exact ⟨by rw [G.out]; simp, HBW.out⟩
      · have hai' : ((a : Int) == (i : Int)) = false := by simp; omega
        go_wp2
        go_ret2
        exact ⟨by rw [G.out]; simp [hai], HBW.out⟩
    have h2' : (o == 2) = false := by simpa using h2
    have G : Hid (R = true) := Lib.hid (by rw [HE.out, if_neg h1, if_neg h2]; exact if_pos (by simp))
    clear HE
    go_wp2
    go_ret2
    exact ⟨by rw [G.out]; rfl, HBW.out⟩
  · go_wp2_with fail
    try rw [hwx]
    clear hwx
    refine HFX.out.mono ?_
    rintro _ w5 ⟨rfl, rfl⟩
    clear HFX e0 e1 b0 b1
    by_cases h1 : o = 1
    · have G : Hid (R = true) := Lib.hid (by rw [HE.out, if_pos h1])
      subst h1
      go_wp2
      go_ret2
      exact ⟨by rw [G.out]; rfl, HBW.out⟩
    have h1' : (o == 1) = false := by simpa using h1
    by_cases h2 : o = 2
    · have G : Hid (R = decide (a = i)) := Lib.hid (by rw [HE.out, if_neg h1, if_pos h2])
      subst h2
      by_cases hai : a = i
      · subst hai
        go_wp2
        go_ret2
        exact ⟨by rw [G.out]; simp, HBW.out⟩
      · have hai' : ((a : Int) == (i : Int)) = false := by simp; omega
        go_wp2
        go_ret2
        exact ⟨by rw [G.out]; simp [hai], HBW.out⟩
    have h2' : (o == 2) = false := by simpa using h2
    have HG : Hid (R = if o = 4 ∧ ifa = false ∧ x1 = true then ((bits .and .i64 x.flags 8 != 0) || (x2 || x3)) else false) := Lib.hid (by rw [HE.out, if_neg h1, if_neg h2]; exact if_neg (by simp))
    clear HE
    by_cases h4 : o = 4
    · subst h4
      clear h1 h2
      cases ifa
      · go_wp2_with fail
        refine HIX.out.mono ?_
        rintro _ w6 ⟨rfl, hb⟩
        have k0 := below_cell' hb q0
        have y2' := below_cell' hb y2
        have HB6 := Lib.hid (HBW.out.trans (hb.mono HBW.out.size))
        have HX := Lib.hid (HX1.out w6 HB6.out)
        clear hb q0 y2 HBW HX1
        go_wp2_with fail
        refine HX.out.mono ?_
        rintro _ w7 ⟨rfl, hb⟩
        have q0 := below_cell' hb k0
        have y2 := below_cell' hb y2'
        have HB7 := Lib.hid (HB6.out.trans (hb.mono HB6.out.size))
        clear hb k0 y2' HB6 HX
        cases x1
        · have G : Hid (R = false) := Lib.hid (by rw [HG.out]; rfl)
          go_wp2
          go_ret2
          exact ⟨by rw [G.out]; rfl, HB7.out⟩
        · have HG2 : Hid (R = ((bits .and .i64 x.flags 8 != 0) || (x2 || x3))) := Lib.hid (by rw [HG.out]; rfl)
          clear HG
          have HX := Lib.hid (HX2.out w7 HB7.out)
          cases hst : (bits .and .i64 x.flags 8 != 0)
          · rw [hst] at HG2
            go_wp2_with fail
            refine HX.out.mono ?_
            rintro _ w8 ⟨rfl, hb⟩
            have HB8 := Lib.hid (HB7.out.trans (hb.mono HB7.out.size))
            have HY := Lib.hid (HX3.out w8 HB8.out)
            clear hb HB7 HX
            cases x2
            · go_wp2_with fail
              refine HY.out.mono ?_
              rintro _ w9 ⟨rfl, hb⟩
              have HB9 := Lib.hid (HB8.out.trans (hb.mono HB8.out.size))
              clear hb HB8 HY
              go_wp2
              go_ret2
              exact ⟨by rw [HG2.out]; simp, HB9.out⟩
            · go_wp2
              go_ret2
              exact ⟨by rw [HG2.out]; rfl, HB8.out⟩
          · rw [hst] at HG2
            have G : Hid (R = true) := Lib.hid (by rw [HG2.out]; rfl)
            go_wp2
            go_ret2
            exact ⟨by rw [G.out]; rfl, HB7.out⟩
      · have G : Hid (R = false) := Lib.hid (by rw [HG.out]; rfl)
        go_wp2_with fail
        refine HIX.out.mono ?_
        rintro _ w6 ⟨rfl, hb⟩
        have HB6 := Lib.hid (HBW.out.trans (hb.mono HBW.out.size))
        clear hb
        go_wp2
        go_ret2
        exact ⟨by rw [G.out]; rfl, HB6.out⟩
    · have h4' : (o == 4) = false := by simpa using h4
      have G : Hid (R = false) := Lib.hid (by rw [HG.out, if_neg (fun h => h4 h.1)])
      clear HG
      go_wp2
      go_ret2
      exact ⟨by rw [G.out]; rfl, HBW.out⟩
  · go_wp2_with fail
    try rw [hwx]
    clear hwx
    refine HFX.out.mono ?_
    rintro _ w5 ⟨rfl, rfl⟩
    clear HFX e0 e1 b0 b1
    by_cases h1 : o = 1
    · have G : Hid (R = true) := Lib.hid (by rw [HE.out, if_pos h1])
      subst h1
      go_wp2
      go_ret2
      exact ⟨by rw [G.out]; rfl, HBW.out⟩
    have h1' : (o == 1) = false := by simpa using h1
    by_cases h2 : o = 2
    · have G : Hid (R = decide (a = i)) := Lib.hid (by rw [HE.out, if_neg h1, if_pos h2])
      subst h2
      by_cases hai : a = i
      · subst hai
        go_wp2
        go_ret2
        exact ⟨by rw [G.out]; simp, HBW.out⟩
      · have hai' : ((a : Int) == (i : Int)) = false := by simp; omega
        go_wp2
        go_ret2
        exact ⟨by rw [G.out]; simp [hai], HBW.out⟩
    have h2' : (o == 2) = false := by simpa using h2
    have HG : Hid (R = if o = 4 ∧ ifa = false ∧ x1 = true then ((bits .and .i64 x.flags 8 != 0) || (x2 || x3)) else false) := Lib.hid (by rw [HE.out, if_neg h1, if_neg h2]; exact if_neg (by simp))
    clear HE
    by_cases h4 : o = 4
    · subst h4
      clear h1 h2
      cases ifa
      · go_wp2_with fail
        refine HIX.out.mono ?_
        rintro _ w6 ⟨rfl, hb⟩
        have k0 := below_cell' hb q0
        have y2' := below_cell' hb y2
        have HB6 := Lib.hid (HBW.out.trans (hb.mono HBW.out.size))
        have HX := Lib.hid (HX1.out w6 HB6.out)
        clear hb q0 y2 HBW HX1
        go_wp2_with fail
        refine HX.out.mono ?_
        rintro _ w7 ⟨rfl, hb⟩
        have q0 := below_cell' hb k0
        have y2 := below_cell' hb y2'
        have HB7 := Lib.hid (HB6.out.trans (hb.mono HB6.out.size))
        clear hb k0 y2' HB6 HX
        cases x1
        · have G : Hid (R = false) := Lib.hid (by rw [HG.out]; rfl)
          go_wp2
          go_ret2
          exact ⟨by rw [G.out]; rfl, HB7.out⟩
        · have HG2 : Hid (R = ((bits .and .i64 x.flags 8 != 0) || (x2 || x3))) := Lib.hid (by rw [HG.out]; rfl)
          clear HG
          have HX := Lib.hid (HX2.out w7 HB7.out)
          cases hst : (bits .and .i64 x.flags 8 != 0)
          · rw [hst] at HG2
            go_wp2_with fail
            refine HX.out.mono ?_
            rintro _ w8 ⟨rfl, hb⟩
            have HB8 := Lib.hid (HB7.out.trans (hb.mono HB7.out.size))
            have HY := Lib.hid (HX3.out w8 HB8.out)
            clear hb HB7 HX
            cases x2
            · go_wp2_with fail
              refine HY.out.mono ?_
              rintro _ w9 ⟨rfl, hb⟩
              have HB9 := Lib.hid (HB8.out.trans (hb.mono HB8.out.size))
              clear hb HB8 HY
              go_wp2
              go_ret2
              exact ⟨by rw [HG2.out]; simp, HB9.out⟩
            · go_wp2
              go_ret2
              exact ⟨by rw [HG2.out]; rfl, HB8.out⟩
          · rw [hst] at HG2
            have G : Hid (R = true) := Lib.hid (by rw [HG2.out]; rfl)
            go_wp2
            go_ret2
            exact ⟨by rw [G.out]; rfl, HB7.out⟩
      · have G : Hid (R = false) := Lib.hid (by rw [HG.out]; rfl)
        go_wp2_with fail
        refine HIX.out.mono ?_
        rintro _ w6 ⟨rfl, hb⟩
        have HB6 := Lib.hid (HBW.out.trans (hb.mono HBW.out.size))
        clear hb
        go_wp2
        go_ret2
        exact ⟨by rw [G.out]; rfl, HB6.out⟩
    · have h4' : (o == 4) = false := by simpa using h4
      have G : Hid (R = false) := Lib.hid (by rw [HG.out, if_neg (fun h => h4 h.1)])
      clear HG
      go_wp2
      go_ret2
      exact ⟨by rw [G.out]; rfl, HBW.out⟩
end Go.Proofs.YtmpphhkbjmjomaaGreatDoor.Hi
