/- Selection: Virtual and Interface: the walks. -/
import Derived.Test.YtipinmbpdgjalaaGreatDoorWB
import Derived.Test.YtipinmbpdgjalaaGreatDoorOT
set_option maxRecDepth 100000
set_option maxHeartbeats 8000000
set_option linter.unusedVariables false
set_option linter.unusedSimpArgs false
namespace Go.Proofs.YtipinmbpdgjalaaGreatDoor.Hi
open Go.RowKit Go.Shelf Go.Sort Bs

theorem first_there {m : List EntM} (hw : WFm m) (ho : OrdM m) {x : MethM} {p : Int × Int} (hx : methAt m p = some x) {r : Nat} (hr : r < m.length) (h : (firstE m x p r).2 = 0) : ∃ y, methAt m (firstE m x p r).1 = some y := by
  rcases first_cases hw ho hx hr with e | ⟨q, h1, _, e⟩
  · rw [e] at h; cases h
  · obtain ⟨y, hy, _⟩ := all_spec hw ho hx h1
    rw [e]
    exact ⟨y, hy⟩
theorem virM_none {m : List EntM} {r : Int} {p : Int × Int} (h : entAt m r = none ∨ methAt m p = none) : virM m r p = ((0, 0), 3) ∧ itfM m r p = ((0, 0), 3) := by
  unfold virM itfM
  rcases h with h | h <;> rw [h]
  · exact ⟨rfl, rfl⟩
  · cases entAt m r <;> exact ⟨rfl, rfl⟩
theorem virM_some {m : List EntM} {k : Nat} (hk : k < m.length) {p : Int × Int} {x : MethM} (hx : methAt m p = some x) : virM m (k : Int) p = virE m x p k ∧ itfM m (k : Int) p = itfE m x p k := by
  unfold virM itfM
  rw [entAt_nat hk, hx]
  exact ⟨rfl, rfl⟩

theorem CVirtual {B bw : Nat} {w0 w : World} {m : List EntM} (h : Built B bw w0 w m) (r : Int) (p : Int × Int) :
    Calls Tryz.prog 36 #[.pointer (some ⟨bw, 0, none⟩), .int .i64 r, .agg #[.int .i64 p.1, .int .i64 p.2]] w fun e w' => e = .returned (.tuple #[.agg #[.int .i64 (virM m r p).1.1, .int .i64 (virM m r p).1.2], .int .i64 (virM m r p).2]) ∧ Below w.heap.size w w' := by
  obtain ⟨wp, hwp⟩ : ∃ wp, (w.alloc (.cells #[.int .i64 p.1, .int .i64 p.2] 38)) = wp := ⟨_, rfl⟩
  have hbp : Below w.heap.size w wp := by rw [← hwp]; exact (Below.refl _ _).alloc (Nat.le_refl _) _
  have HS := Lib.hid (IdAt.start wp)
  obtain ⟨wa, hwa⟩ : ∃ wa, (wp.alloc (.cells #[.int .i64 0, .int .i64 0] 38)) = wa := ⟨_, rfl⟩
  rw [hwa] at HS
  have p0 : wp.cell? ⟨w.heap.size, 0, none⟩ = some (.int .i64 p.1) := by rw [← hwp]; exact World.cell?_alloc_new ..
  have p1 : wp.cell? ⟨w.heap.size, 1, none⟩ = some (.int .i64 p.2) := by rw [← hwp]; exact World.cell?_alloc_new ..
  have q0 := below_cell' HS.out.bel p0
  have q1 := below_cell' HS.out.bel p1
  have hba := hbp.trans (HS.out.bel.mono hbp.size)
  have HK := Lib.hid (CKnown (h.next hba) r p)
  have HH := Lib.hid (fun wr (hr : Below w.heap.size w wr) => h.next hr)
  have HWF := Lib.hid h.wf
  have HO := Lib.hid h.ord
  have HBP := Lib.hid hbp
  have HQ := Lib.hid (And.intro q0 q1)
  obtain ⟨R, hR⟩ : ∃ R, virM m r p = R := ⟨_, rfl⟩
  have HR := Lib.hid hR
  rw [hR]
  clear h hbp hba p0 p1 hR
  have HTWO : Hid (∀ w', IdAt wp w' → Below w.heap.size w w' ∧ (w'.cell? ⟨wp.heap.size, 0, none⟩ = some (.int .i64 0) ∧ w'.cell? ⟨wp.heap.size, 1, none⟩ = some (.int .i64 0) ∧ ∀ j, w'.frozen? ⟨wp.heap.size, j, none⟩ = false) ∧ ∀ v0 v1, (∀ j (hj : j < [v0, v1].length), ((w'.setCell ⟨wp.heap.size, 0, none⟩ v0).setCell ⟨wp.heap.size, 1, none⟩ v1).cell? ⟨wp.heap.size, j, none⟩ = some [v0, v1][j]) ∧ Below w.heap.size w ((w'.setCell ⟨wp.heap.size, 0, none⟩ v0).setCell ⟨wp.heap.size, 1, none⟩ v1)) := Lib.hid (fun w' h => by
    exact ⟨HBP.out.trans (h.bel.mono HBP.out.size), ⟨h.s0, h.s1, h.t⟩, fun v0 v1 => ⟨h.two v0 v1, HBP.out.trans ((h.end v0 v1).mono HBP.out.size)⟩⟩)
  go_enter Tryz.func36, Tryz.ntmps36
  go_wp2_with fail
  try rw [hwp]
  try rw [hwa]
  clear hwp hwa
  refine HK.out.mono ?_
  rintro _ w1 ⟨nm, ds, f, l, s, ad, q, c, er, rfl, g, k, hb⟩
  obtain ⟨wx, hwx⟩ : ∃ wx, (w1.alloc (.cells #[.string nm, .string ds, .int .i64 f, .int .i64 l, .int .i64 s, .slice ad q c] 55)) = wx := ⟨_, rfl⟩
  have hbx : Below w1.heap.size w1 wx := by rw [← hwx]; exact (Below.refl _ _).alloc (Nat.le_refl _) _
  have x0 : wx.cell? ⟨w1.heap.size, 0, none⟩ = some (.string nm) := by rw [← hwx]; exact World.cell?_alloc_new ..
  have x1 : wx.cell? ⟨w1.heap.size, 1, none⟩ = some (.string ds) := by rw [← hwx]; exact World.cell?_alloc_new ..
  have x2 : wx.cell? ⟨w1.heap.size, 2, none⟩ = some (.int .i64 f) := by rw [← hwx]; exact World.cell?_alloc_new ..
  have hb' := hb.trans (hbx.mono hb.size)
  have HS1 := Lib.hid (HS.out.next hb')
  have q0 := below_cell' hb' HQ.out.1
  have q1 := below_cell' hb' HQ.out.2
  have HX := Lib.hid (And.intro x0 (And.intro x1 x2))
  have HQ1 := Lib.hid (And.intro q0 q1)
  have G := Lib.hid g
  have K := Lib.hid k
  clear hb hbx hb' HK HS HQ g k
  by_cases z : er = 0
  case neg =>
    obtain ⟨hn, rfl⟩ := K.out z
    have HR3 : Hid (R = ((0, 0), 3)) := Lib.hid (by rw [← HR.out]; exact (virM_none hn).1)
    obtain rfl := HR3.out
    obtain ⟨_, ⟨s0, s1, st⟩, hfin⟩ := HTWO.out wx HS1.out
    have t0 := st 0
    have t1 := st 1
    have HFIN := Lib.hid hfin
    clear z hn K G HR HR3 HX HQ1 HS1 HH HTWO hfin st x0 x1 x2 q0 q1
    go_wp2
    try rw [hwx]
    refine bodyPost_ret (results_cells_tmp rfl _ _ (wp.heap.size) [.int .i64 0, .int .i64 0] _ rfl (HFIN.out _ _).1 Tryz.underlying38 rfl id_info2) rfl ⟨rfl, (HFIN.out _ _).2⟩
  subst z
  obtain ⟨k, x, rfl, hk, hx, rfl, rfl, rfl⟩ := G.out rfl
  have HRE : Hid (virE m x p k = R) := Lib.hid (by rw [← HR.out]; exact (virM_some hk hx).1.symm)
  have HXM := Lib.hid hx
  have HKM := Lib.hid hk
  have HI := Lib.hid ((HH.out wx (HTWO.out wx HS1.out).1).isIface (k : Int))
  clear G K HR hk hx
  go_wp2_with fail
  try rw [hwx]
  clear hwx
  refine HI.out.mono ?_
  rintro _ w2 ⟨rfl, hb⟩
  have HS2 := Lib.hid (HS1.out.next hb)
  have q0 := below_cell' hb HQ1.out.1
  have q1 := below_cell' hb HQ1.out.2
  have x0 := below_cell' hb HX.out.1
  have x1 := below_cell' hb HX.out.2.1
  have x2 := below_cell' hb HX.out.2.2
  have HX2 := Lib.hid (And.intro x0 x1)
  obtain ⟨hbw, ⟨s0, s1, st⟩, hfin⟩ := HTWO.out w2 HS2.out
  have t0 := st 0
  have t1 := st 1
  have HFIN := Lib.hid hfin
  have HB2 := Lib.hid hbw
  have HS0 := Lib.hid (And.intro s0 s1)
  clear hb HI HX HQ1 HS1 hfin hbw st
  cases hi : isIfaceM m (k : Int) with
  | true =>
    have HR3 : Hid (R = ((0, 0), 2)) := Lib.hid (by rw [← HRE.out]; unfold virE; rw [if_pos hi])
    obtain rfl := HR3.out
    clear HR3 HRE HXM HKM hi q0 q1 x0 x1 x2 HX2 HS2 HH HTWO
    go_wp2
    refine bodyPost_ret (results_cells_tmp rfl _ _ (wp.heap.size) [.int .i64 0, .int .i64 0] _ rfl (HFIN.out _ _).1 Tryz.underlying38 rfl id_info2) rfl ⟨rfl, (HFIN.out _ _).2⟩
  | false =>
    cases hst : statF x.flags with
    | true =>
      have HR3 : Hid (R = ((0, 0), 23)) := Lib.hid (by rw [← HRE.out]; unfold virE; rw [if_neg (by simp [hi]), if_pos hst])
      have hst' : (bits .and .i64 x.flags 8 != 0) = true := by unfold statF at hst; exact hst
      obtain rfl := HR3.out
      clear HR3 HRE HXM HKM hi hst q0 q1 x0 x1 HX2 HS2 HH HTWO
      go_wp2
      refine bodyPost_ret (results_cells_tmp rfl _ _ (wp.heap.size) [.int .i64 0, .int .i64 0] _ rfl (HFIN.out _ _).1 Tryz.underlying38 rfl id_info2) rfl ⟨rfl, (HFIN.out _ _).2⟩
    | false =>
      have HRF : Hid (R = if (firstE m x p k).2 = 0 then fndM m (firstE m x p k).1 else oneM m k x.name x.desc) := Lib.hid (by rw [← HRE.out]; unfold virE; rw [if_neg (by simp [hi]), if_neg (by simp [hst])])
      have hst' : (bits .and .i64 x.flags 8 != 0) = false := by unfold statF at hst; exact hst
      have HFT := Lib.hid (fun h => first_there HWF.out HO.out HXM.out HKM.out h)
      have HF : Hid (Calls Tryz.prog 23 #[.pointer (some ⟨bw, 0, none⟩), .int .i64 k, .agg #[.int .i64 p.1, .int .i64 p.2]] w2 fun e w' => e = .returned (.tuple #[.agg #[.int .i64 (firstE m x p k).1.1, .int .i64 (firstE m x p k).1.2], .int .i64 (firstE m x p k).2]) ∧ Below w2.heap.size w2 w') := Lib.hid (by
        have hxm := HXM.out
        obtain ⟨i, j, hi', hj, rfl, rfl⟩ := methAt_some hxm
        have := OFirst (HH.out _ HB2.out) hi' hj (k : Int)
        have e : ∀ y a, firstI m y a (k : Int) = firstE m y a k := fun y a => by unfold firstI; rw [entAt_nat HKM.out]; rfl
        rw [e] at this
        exact this)
      obtain ⟨⟨⟨u1, u2⟩, ur⟩, hF⟩ : ∃ F, firstE m x p k = F := ⟨_, rfl⟩
      rw [hF] at HRF HFT HF
      simp only at HRF HFT HF
      clear hF HRE hi hst HFIN t0 t1 s0 s1 HS0 HXM
      go_wp2_with fail
      refine HF.out.mono ?_
      rintro _ w3 ⟨rfl, hb⟩
      obtain ⟨wm, hwm⟩ : ∃ wm, (w3.alloc (.cells #[.int .i64 u1, .int .i64 u2] 38)) = wm := ⟨_, rfl⟩
      have hbm : Below w3.heap.size w3 wm := by rw [← hwm]; exact (Below.refl _ _).alloc (Nat.le_refl _) _
      have m0 : wm.cell? ⟨w3.heap.size, 0, none⟩ = some (.int .i64 u1) := by rw [← hwm]; exact World.cell?_alloc_new ..
      have m1 : wm.cell? ⟨w3.heap.size, 1, none⟩ = some (.int .i64 u2) := by rw [← hwm]; exact World.cell?_alloc_new ..
      have hb' := hb.trans (hbm.mono hb.size)
      have HS3 := Lib.hid (HS2.out.next hb')
      have x0 := below_cell' hb' HX2.out.1
      have x1 := below_cell' hb' HX2.out.2
      have HB3 := Lib.hid (HTWO.out wm HS3.out).1
      clear hb hbm hb' HS2 HX2 HB2 HF q0 q1 x2
      by_cases hu : ur = 0
      · subst hu
        obtain ⟨y, hy⟩ := HFT.out rfl
        have HC := Lib.hid (CFound (HH.out _ HB3.out) hy)
        have HRQ : Hid (fndM m (u1, u2) = R) := Lib.hid (by rw [HRF.out, if_pos rfl])
        rw [HRQ.out] at HC
        clear HRQ HRF HFT hy HH x0 x1
        go_wp2_with fail
        try rw [hwm]
        clear hwm
        refine HC.out.mono ?_
        rintro _ w4 ⟨rfl, hb⟩
        have HS4 := Lib.hid (HS3.out.next hb)
        obtain ⟨_, ⟨s0, s1, st⟩, hfin⟩ := HTWO.out w4 HS4.out
        have t0 := st 0
        have t1 := st 1
        have HFIN := Lib.hid hfin
        clear hb HS4 HS3 HTWO hfin st HC m0 m1
        go_wp2
        refine bodyPost_ret (results_cells_tmp rfl _ _ (wp.heap.size) [.int .i64 R.1.1, .int .i64 R.1.2] _ rfl (HFIN.out _ _).1 Tryz.underlying38 rfl id_info2) rfl ⟨rfl, (HFIN.out _ _).2⟩
      · have hu' : (ur == 0) = false := by simpa using hu
        have HC := Lib.hid (One (HH.out _ HB3.out) HKM.out x.name x.desc)
        have HRQ : Hid (oneM m k x.name x.desc = R) := Lib.hid (by rw [HRF.out, if_neg hu])
        rw [HRQ.out] at HC
        unfold idV at HC
        clear HRQ HRF HFT hu HH m0 m1
        go_wp2_with fail
        try rw [hwm]
        clear hwm
        refine HC.out.mono ?_
        rintro _ w4 ⟨rfl, hb⟩
        have HS4 := Lib.hid (HS3.out.next hb)
        obtain ⟨_, ⟨s0, s1, st⟩, hfin⟩ := HTWO.out w4 HS4.out
        have t0 := st 0
        have t1 := st 1
        have HFIN := Lib.hid hfin
        clear hb HS4 HS3 HTWO hfin st HC x0 x1
        go_wp2
        refine bodyPost_ret (results_cells_tmp rfl _ _ (wp.heap.size) [.int .i64 R.1.1, .int .i64 R.1.2] _ rfl (HFIN.out _ _).1 Tryz.underlying38 rfl id_info2) rfl ⟨rfl, (HFIN.out _ _).2⟩
end Go.Proofs.YtipinmbpdgjalaaGreatDoor.Hi
/- Selection: Interface: the walk. -/
set_option maxRecDepth 100000
set_option maxHeartbeats 8000000
set_option linter.unusedVariables false
set_option linter.unusedSimpArgs false
namespace Go.Proofs.YtipinmbpdgjalaaGreatDoor.Hi
open Go.RowKit Go.Shelf Go.Sort Bs

theorem CInterface {B bw : Nat} {w0 w : World} {m : List EntM} (h : Built B bw w0 w m) (r : Int) (p : Int × Int) :
    Calls Tryz.prog 35 #[.pointer (some ⟨bw, 0, none⟩), .int .i64 r, .agg #[.int .i64 p.1, .int .i64 p.2]] w fun e w' => e = .returned (.tuple #[.agg #[.int .i64 (itfM m r p).1.1, .int .i64 (itfM m r p).1.2], .int .i64 (itfM m r p).2]) ∧ Below w.heap.size w w' := by
  obtain ⟨wp, hwp⟩ : ∃ wp, (w.alloc (.cells #[.int .i64 p.1, .int .i64 p.2] 38)) = wp := ⟨_, rfl⟩
  have hbp : Below w.heap.size w wp := by rw [← hwp]; exact (Below.refl _ _).alloc (Nat.le_refl _) _
  have HS := Lib.hid (IdAt.start wp)
  obtain ⟨wa, hwa⟩ : ∃ wa, (wp.alloc (.cells #[.int .i64 0, .int .i64 0] 38)) = wa := ⟨_, rfl⟩
  rw [hwa] at HS
  have p0 : wp.cell? ⟨w.heap.size, 0, none⟩ = some (.int .i64 p.1) := by rw [← hwp]; exact World.cell?_alloc_new ..
  have p1 : wp.cell? ⟨w.heap.size, 1, none⟩ = some (.int .i64 p.2) := by rw [← hwp]; exact World.cell?_alloc_new ..
  have q0 := below_cell' HS.out.bel p0
  have q1 := below_cell' HS.out.bel p1
  have hba := hbp.trans (HS.out.bel.mono hbp.size)
  have HK := Lib.hid (CKnown (h.next hba) r p)
  have HH := Lib.hid (fun wr (hr : Below w.heap.size w wr) => h.next hr)
  have HWF := Lib.hid h.wf
  have HO := Lib.hid h.ord
  have HBP := Lib.hid hbp
  have HQ := Lib.hid (And.intro q0 q1)
  obtain ⟨R, hR⟩ : ∃ R, itfM m r p = R := ⟨_, rfl⟩
  have HR := Lib.hid hR
  rw [hR]
  clear h hbp hba p0 p1 hR
  have HTWO : Hid (∀ w', IdAt wp w' → Below w.heap.size w w' ∧ (w'.cell? ⟨wp.heap.size, 0, none⟩ = some (.int .i64 0) ∧ w'.cell? ⟨wp.heap.size, 1, none⟩ = some (.int .i64 0) ∧ ∀ j, w'.frozen? ⟨wp.heap.size, j, none⟩ = false) ∧ ∀ v0 v1, (∀ j (hj : j < [v0, v1].length), ((w'.setCell ⟨wp.heap.size, 0, none⟩ v0).setCell ⟨wp.heap.size, 1, none⟩ v1).cell? ⟨wp.heap.size, j, none⟩ = some [v0, v1][j]) ∧ Below w.heap.size w ((w'.setCell ⟨wp.heap.size, 0, none⟩ v0).setCell ⟨wp.heap.size, 1, none⟩ v1)) := Lib.hid (fun w' h => by
    exact ⟨HBP.out.trans (h.bel.mono HBP.out.size), ⟨h.s0, h.s1, h.t⟩, fun v0 v1 => ⟨h.two v0 v1, HBP.out.trans ((h.end v0 v1).mono HBP.out.size)⟩⟩)
  go_enter Tryz.func35, Tryz.ntmps35
  go_wp2_with fail
  try rw [hwp]
  try rw [hwa]
  clear hwp hwa
  refine HK.out.mono ?_
  rintro _ w1 ⟨nm, ds, f, l, s, ad, q, c, er, rfl, g, k, hb⟩
  obtain ⟨wx, hwx⟩ : ∃ wx, (w1.alloc (.cells #[.string nm, .string ds, .int .i64 f, .int .i64 l, .int .i64 s, .slice ad q c] 55)) = wx := ⟨_, rfl⟩
  have hbx : Below w1.heap.size w1 wx := by rw [← hwx]; exact (Below.refl _ _).alloc (Nat.le_refl _) _
  have x0 : wx.cell? ⟨w1.heap.size, 0, none⟩ = some (.string nm) := by rw [← hwx]; exact World.cell?_alloc_new ..
  have x1 : wx.cell? ⟨w1.heap.size, 1, none⟩ = some (.string ds) := by rw [← hwx]; exact World.cell?_alloc_new ..
  have x2 : wx.cell? ⟨w1.heap.size, 2, none⟩ = some (.int .i64 f) := by rw [← hwx]; exact World.cell?_alloc_new ..
  have x3 : wx.cell? ⟨w1.heap.size, 3, none⟩ = some (.int .i64 l) := by rw [← hwx]; exact World.cell?_alloc_new ..
  have x4 : wx.cell? ⟨w1.heap.size, 4, none⟩ = some (.int .i64 s) := by rw [← hwx]; exact World.cell?_alloc_new ..
  have x5 : wx.cell? ⟨w1.heap.size, 5, none⟩ = some (.slice ad q c) := by rw [← hwx]; exact World.cell?_alloc_new ..
  have hb' := hb.trans (hbx.mono hb.size)
  have HS1 := Lib.hid (HS.out.next hb')
  have q0 := below_cell' hb' HQ.out.1
  have q1 := below_cell' hb' HQ.out.2
  have HX := Lib.hid (And.intro x0 (And.intro x1 (And.intro x2 (And.intro x3 (And.intro x4 x5)))))
  have HQ1 := Lib.hid (And.intro q0 q1)
  have G := Lib.hid g
  have K := Lib.hid k
  clear hb hbx hb' HK HS HQ g k
  by_cases z : er = 0
  case neg =>
    obtain ⟨hn, rfl⟩ := K.out z
    have HR3 : Hid (R = ((0, 0), 3)) := Lib.hid (by rw [← HR.out]; exact (virM_none hn).2)
    obtain rfl := HR3.out
    obtain ⟨_, ⟨s0, s1, st⟩, hfin⟩ := HTWO.out wx HS1.out
    have t0 := st 0
    have t1 := st 1
    have HFIN := Lib.hid hfin
    clear z hn K G HR HR3 HX HQ1 HS1 HH HTWO hfin st x0 x1 x2 x3 x4 x5 q0 q1
    go_wp2
    try rw [hwx]
    refine bodyPost_ret (results_cells_tmp rfl _ _ (wp.heap.size) [.int .i64 0, .int .i64 0] _ rfl (HFIN.out _ _).1 Tryz.underlying38 rfl id_info2) rfl ⟨rfl, (HFIN.out _ _).2⟩
  subst z
  obtain ⟨k, x, rfl, hk, hx, rfl, rfl, rfl⟩ := G.out rfl
  have HRE : Hid (itfE m x p k = R) := Lib.hid (by rw [← HR.out]; exact (virM_some hk hx).2.symm)
  have HXM := Lib.hid hx
  have HKM := Lib.hid hk
  have HI := Lib.hid ((HH.out wx (HTWO.out wx HS1.out).1).isIface (k : Int))
  clear G K HR hk hx
  go_wp2_with fail
  try rw [hwx]
  clear hwx
  refine HI.out.mono ?_
  rintro _ w2 ⟨rfl, hb⟩
  have HS2 := Lib.hid (HS1.out.next hb)
  have q0 := below_cell' hb HQ1.out.1
  have q1 := below_cell' hb HQ1.out.2
  have x0 := below_cell' hb HX.out.1
  have x1 := below_cell' hb HX.out.2.1
  have x2 := below_cell' hb HX.out.2.2.1
  have x3 := below_cell' hb HX.out.2.2.2.1
  have x4 := below_cell' hb HX.out.2.2.2.2.1
  have x5 := below_cell' hb HX.out.2.2.2.2.2
  have HX2 := Lib.hid (And.intro x0 x1)
  obtain ⟨hbw, ⟨s0, s1, st⟩, hfin⟩ := HTWO.out w2 HS2.out
  have t0 := st 0
  have t1 := st 1
  have HFIN := Lib.hid hfin
  have HB2 := Lib.hid hbw
  have HS0 := Lib.hid (And.intro s0 s1)
  clear hb HI HX HQ1 HS1 hfin hbw st
  cases hi : isIfaceM m (k : Int) with
  | true =>
    have HR3 : Hid (R = ((0, 0), 2)) := Lib.hid (by rw [← HRE.out]; unfold itfE; rw [if_pos hi])
    obtain rfl := HR3.out
    clear HR3 HRE HXM HKM hi q0 q1 x0 x1 x2 x3 x4 x5 HX2 HS2 HH HTWO
    go_wp2
    refine bodyPost_ret (results_cells_tmp rfl _ _ (wp.heap.size) [.int .i64 0, .int .i64 0] _ rfl (HFIN.out _ _).1 Tryz.underlying38 rfl id_info2) rfl ⟨rfl, (HFIN.out _ _).2⟩
  | false =>
    cases hst : (bits .and .i64 x.flags 10 != 0) with
    | true =>
      have HR3 : Hid (R = ((0, 0), 23)) := Lib.hid (by rw [← HRE.out]; unfold itfE; rw [if_neg (by simp [hi]), if_pos hst])
      obtain rfl := HR3.out
      clear HR3 HRE HXM HKM hi q0 q1 x0 x1 x3 x4 x5 HX2 HS2 HH HTWO
      go_wp2
      refine bodyPost_ret (results_cells_tmp rfl _ _ (wp.heap.size) [.int .i64 0, .int .i64 0] _ rfl (HFIN.out _ _).1 Tryz.underlying38 rfl id_info2) rfl ⟨rfl, (HFIN.out _ _).2⟩
    | false =>
      have HRF : Hid (R = match upE m x.name x.desc k with
        | none => oneM m k x.name x.desc
        | some q => (match methAt m q with
          | some y => if (bits .and .i64 y.flags 1 == 0) = true then ((0, 0), 22) else fndM m q
          | none => ((0, 0), 22))) := Lib.hid (by rw [← HRE.out]; unfold itfE; rw [if_neg (by simp [hi]), if_neg (by rw [hst]; decide)]; try rfl)
      have HF := Lib.hid (CUp (HH.out _ HB2.out) HKM.out x.name x.desc x.flags l s ad q c)
      clear HRE hi HFIN t0 t1 s0 s1 HS0 HXM
      go_wp2_with fail
      refine HF.out.mono ?_
      rintro _ w3 ⟨i1, i2, nm2, ds2, f2, l2, s2, ad2, q2, c2, ok, rfl, hno, hyes, hb⟩
      obtain ⟨wm, hwm⟩ : ∃ wm, ((w3.alloc (.cells #[.int .i64 i1, .int .i64 i2] 38)).alloc (.cells #[.string nm2, .string ds2, .int .i64 f2, .int .i64 l2, .int .i64 s2, .slice ad2 q2 c2] 55)) = wm := ⟨_, rfl⟩
      have hbm : Below w3.heap.size w3 wm := by rw [← hwm]; exact ((Below.refl _ _).alloc (Nat.le_refl _) _).alloc (by simp) _
      have m0 : wm.cell? ⟨w3.heap.size, 0, none⟩ = some (.int .i64 i1) := by rw [← hwm]; exact alloc_old (World.cell?_alloc_new ..)
      have m1 : wm.cell? ⟨w3.heap.size, 1, none⟩ = some (.int .i64 i2) := by rw [← hwm]; exact alloc_old (World.cell?_alloc_new ..)
      have m2 : wm.cell? ⟨w3.heap.size + 1, 2, none⟩ = some (.int .i64 f2) := by
        rw [← hwm]
        have := World.cell?_alloc_new (w3.alloc (.cells #[.int .i64 i1, .int .i64 i2] 38)) #[.string nm2, .string ds2, .int .i64 f2, .int .i64 l2, .int .i64 s2, .slice ad2 q2 c2] 55 2
        rw [World.size_alloc] at this
        exact this
      have hb' := hb.trans (hbm.mono hb.size)
      have HS3 := Lib.hid (HS2.out.next hb')
      have x0 := below_cell' hb' HX2.out.1
      have x1 := below_cell' hb' HX2.out.2
      have HB3 := Lib.hid (HTWO.out wm HS3.out).1
      have HNO := Lib.hid hno
      have HYES := Lib.hid hyes
      clear hb hbm hb' HS2 HX2 HB2 HF q0 q1 x2 x3 x4 x5 hno hyes
      cases ok with
      | false =>
        have HC := Lib.hid (One (HH.out _ HB3.out) HKM.out x.name x.desc)
        have HRQ : Hid (oneM m k x.name x.desc = R) := Lib.hid (by rw [HRF.out, HNO.out rfl])
        rw [HRQ.out] at HC
        unfold idV at HC
        clear HRQ HRF HH m0 m1 m2 HNO HYES
        go_wp2_with fail
        try rw [hwm]
        clear hwm
        refine HC.out.mono ?_
        rintro _ w4 ⟨rfl, hb⟩
        have HS4 := Lib.hid (HS3.out.next hb)
        obtain ⟨_, ⟨s0, s1, st⟩, hfin⟩ := HTWO.out w4 HS4.out
        have t0 := st 0
        have t1 := st 1
        have HFIN := Lib.hid hfin
        clear hb HS4 HS3 HTWO hfin st HC x0 x1
        go_wp2
        refine bodyPost_ret (results_cells_tmp rfl _ _ (wp.heap.size) [.int .i64 R.1.1, .int .i64 R.1.2] _ rfl (HFIN.out _ _).1 Tryz.underlying38 rfl id_info2) rfl ⟨rfl, (HFIN.out _ _).2⟩
      | true =>
        obtain ⟨hu, y, hy, rfl⟩ := HYES.out rfl
        cases hp : (bits .and .i64 y.flags 1 == 0) with
        | true =>
          have HR3 : Hid (R = ((0, 0), 22)) := Lib.hid (by rw [HRF.out, hu]; simp only; rw [hy]; simp only; rw [if_pos hp])
          obtain rfl := HR3.out
          obtain ⟨_, ⟨s0, s1, st⟩, hfin⟩ := HTWO.out wm HS3.out
          have t0 := st 0
          have t1 := st 1
          have HFIN := Lib.hid hfin
          clear HR3 HRF HH hu hy HNO HYES HS3 HTWO hfin st x0 x1 m0 m1
          go_wp2
          try rw [hwm]
          refine bodyPost_ret (results_cells_tmp rfl _ _ (wp.heap.size) [.int .i64 0, .int .i64 0] _ rfl (HFIN.out _ _).1 Tryz.underlying38 rfl id_info2) rfl ⟨rfl, (HFIN.out _ _).2⟩
        | false =>
          have HC := Lib.hid (CFound (HH.out _ HB3.out) hy)
          have HRQ : Hid (fndM m (i1, i2) = R) := Lib.hid (by rw [HRF.out, hu]; simp only; rw [hy]; simp only; rw [if_neg (by rw [hp]; decide)])
          rw [HRQ.out] at HC
          clear HRQ HRF hu hy HH x0 x1 HNO HYES
          go_wp2_with fail
          try rw [hwm]
          clear hwm
          refine HC.out.mono ?_
          rintro _ w4 ⟨rfl, hb⟩
          have HS4 := Lib.hid (HS3.out.next hb)
          obtain ⟨_, ⟨s0, s1, st⟩, hfin⟩ := HTWO.out w4 HS4.out
          have t0 := st 0
          have t1 := st 1
          have HFIN := Lib.hid hfin
          clear hb HS4 HS3 HTWO hfin st HC m0 m1 m2
          go_wp2
          refine bodyPost_ret (results_cells_tmp rfl _ _ (wp.heap.size) [.int .i64 R.1.1, .int .i64 R.1.2] _ rfl (HFIN.out _ _).1 Tryz.underlying38 rfl id_info2) rfl ⟨rfl, (HFIN.out _ _).2⟩
end Go.Proofs.YtipinmbpdgjalaaGreatDoor.Hi
/- Selection: a nil world; a law's world. -/
set_option maxRecDepth 100000
set_option maxHeartbeats 4000000
set_option linter.unusedVariables false
set_option linter.unusedSimpArgs false
namespace Go.Proofs.YtipinmbpdgjalaaGreatDoor.Hi
open Go.RowKit Bs
attribute [local go_sem ↓] Go.wp_at_zero Go.wp_at_succ


theorem awake_vir : virM startM (0 : Int) ((0 : Int), (1 : Int)) = ((0, 1), 0) := by decide +kernel

/-! ### A nil world -/

theorem CVirtual_nil (r : Int) (p : Int × Int) (w : World) : Calls Tryz.prog 36 #[.pointer none, .int .i64 r, .agg #[.int .i64 p.1, .int .i64 p.2]] w fun e w' => e = .returned (.tuple #[.agg #[.int .i64 0, .int .i64 0], .int .i64 2]) ∧ Below w.heap.size w w' := by
  obtain ⟨wp, hwp⟩ : ∃ wp, (w.alloc (.cells #[.int .i64 p.1, .int .i64 p.2] 38)) = wp := ⟨_, rfl⟩
  have hbp : Below w.heap.size w wp := by rw [← hwp]; exact (Below.refl _ _).alloc (Nat.le_refl _) _
  have HS := Lib.hid (IdAt.start wp)
  obtain ⟨wa, hwa⟩ : ∃ wa, (wp.alloc (.cells #[.int .i64 0, .int .i64 0] 38)) = wa := ⟨_, rfl⟩
  rw [hwa] at HS
  have p0 : wp.cell? ⟨w.heap.size, 0, none⟩ = some (.int .i64 p.1) := by rw [← hwp]; exact World.cell?_alloc_new ..
  have p1 : wp.cell? ⟨w.heap.size, 1, none⟩ = some (.int .i64 p.2) := by rw [← hwp]; exact World.cell?_alloc_new ..
  have q0 := below_cell' HS.out.bel p0
  have q1 := below_cell' HS.out.bel p1
  have HK := Lib.hid (CKnown_nil r p wa)
  have HBP := Lib.hid hbp
  have HTWO : Hid (∀ w', IdAt wp w' → (w'.cell? ⟨wp.heap.size, 0, none⟩ = some (.int .i64 0) ∧ w'.cell? ⟨wp.heap.size, 1, none⟩ = some (.int .i64 0) ∧ ∀ j, w'.frozen? ⟨wp.heap.size, j, none⟩ = false) ∧ ∀ v0 v1, (∀ j (hj : j < [v0, v1].length), ((w'.setCell ⟨wp.heap.size, 0, none⟩ v0).setCell ⟨wp.heap.size, 1, none⟩ v1).cell? ⟨wp.heap.size, j, none⟩ = some [v0, v1][j]) ∧ Below w.heap.size w ((w'.setCell ⟨wp.heap.size, 0, none⟩ v0).setCell ⟨wp.heap.size, 1, none⟩ v1)) := Lib.hid (fun w' h => by
    exact ⟨⟨h.s0, h.s1, h.t⟩, fun v0 v1 => ⟨h.two v0 v1, HBP.out.trans ((h.end v0 v1).mono HBP.out.size)⟩⟩)
  clear hbp p0 p1
  go_enter Tryz.func36, Tryz.ntmps36
  go_wp2_with fail
  try rw [hwp]
  try rw [hwa]
  clear hwp hwa
  refine HK.out.mono ?_
  rintro _ w1 ⟨rfl, hb⟩
  unfold zeroMeth
  have hbx : Below w1.heap.size w1 (w1.alloc (.cells #[.string ⟨#[]⟩, .string ⟨#[]⟩, .int .i64 0, .int .i64 0, .int .i64 0, .slice none 0 0] 55)) := (Below.refl _ _).alloc (Nat.le_refl _) _
  have HS1 := Lib.hid (HS.out.next (hb.trans (hbx.mono hb.size)))
  obtain ⟨⟨s0, s1, st⟩, hfin⟩ := HTWO.out _ HS1.out
  have t0 := st 0
  have t1 := st 1
  have HFIN := Lib.hid hfin
  clear hb hbx HK HS q0 q1 HTWO hfin st
  go_wp2
  refine bodyPost_ret (results_cells_tmp rfl _ _ (wp.heap.size) [.int .i64 0, .int .i64 0] _ rfl (HFIN.out _ _).1 Tryz.underlying38 rfl id_info2) rfl ⟨rfl, (HFIN.out _ _).2⟩

theorem CInterface_nil (r : Int) (p : Int × Int) (w : World) : Calls Tryz.prog 35 #[.pointer none, .int .i64 r, .agg #[.int .i64 p.1, .int .i64 p.2]] w fun e w' => e = .returned (.tuple #[.agg #[.int .i64 0, .int .i64 0], .int .i64 2]) ∧ Below w.heap.size w w' := by
  obtain ⟨wp, hwp⟩ : ∃ wp, (w.alloc (.cells #[.int .i64 p.1, .int .i64 p.2] 38)) = wp := ⟨_, rfl⟩
  have hbp : Below w.heap.size w wp := by rw [← hwp]; exact (Below.refl _ _).alloc (Nat.le_refl _) _
  have HS := Lib.hid (IdAt.start wp)
  obtain ⟨wa, hwa⟩ : ∃ wa, (wp.alloc (.cells #[.int .i64 0, .int .i64 0] 38)) = wa := ⟨_, rfl⟩
  rw [hwa] at HS
  have p0 : wp.cell? ⟨w.heap.size, 0, none⟩ = some (.int .i64 p.1) := by rw [← hwp]; exact World.cell?_alloc_new ..
  have p1 : wp.cell? ⟨w.heap.size, 1, none⟩ = some (.int .i64 p.2) := by rw [← hwp]; exact World.cell?_alloc_new ..
  have q0 := below_cell' HS.out.bel p0
  have q1 := below_cell' HS.out.bel p1
  have HK := Lib.hid (CKnown_nil r p wa)
  have HBP := Lib.hid hbp
  have HTWO : Hid (∀ w', IdAt wp w' → (w'.cell? ⟨wp.heap.size, 0, none⟩ = some (.int .i64 0) ∧ w'.cell? ⟨wp.heap.size, 1, none⟩ = some (.int .i64 0) ∧ ∀ j, w'.frozen? ⟨wp.heap.size, j, none⟩ = false) ∧ ∀ v0 v1, (∀ j (hj : j < [v0, v1].length), ((w'.setCell ⟨wp.heap.size, 0, none⟩ v0).setCell ⟨wp.heap.size, 1, none⟩ v1).cell? ⟨wp.heap.size, j, none⟩ = some [v0, v1][j]) ∧ Below w.heap.size w ((w'.setCell ⟨wp.heap.size, 0, none⟩ v0).setCell ⟨wp.heap.size, 1, none⟩ v1)) := Lib.hid (fun w' h => by
    exact ⟨⟨h.s0, h.s1, h.t⟩, fun v0 v1 => ⟨h.two v0 v1, HBP.out.trans ((h.end v0 v1).mono HBP.out.size)⟩⟩)
  clear hbp p0 p1
  go_enter Tryz.func35, Tryz.ntmps35
  go_wp2_with fail
  try rw [hwp]
  try rw [hwa]
  clear hwp hwa
  refine HK.out.mono ?_
  rintro _ w1 ⟨rfl, hb⟩
  unfold zeroMeth
  have hbx : Below w1.heap.size w1 (w1.alloc (.cells #[.string ⟨#[]⟩, .string ⟨#[]⟩, .int .i64 0, .int .i64 0, .int .i64 0, .slice none 0 0] 55)) := (Below.refl _ _).alloc (Nat.le_refl _) _
  have HS1 := Lib.hid (HS.out.next (hb.trans (hbx.mono hb.size)))
  obtain ⟨⟨s0, s1, st⟩, hfin⟩ := HTWO.out _ HS1.out
  have t0 := st 0
  have t1 := st 1
  have HFIN := Lib.hid hfin
  clear hb hbx HK HS q0 q1 HTWO hfin st
  go_wp2
  refine bodyPost_ret (results_cells_tmp rfl _ _ (wp.heap.size) [.int .i64 0, .int .i64 0] _ rfl (HFIN.out _ _).1 Tryz.underlying38 rfl id_info2) rfl ⟨rfl, (HFIN.out _ _).2⟩



end Go.Proofs.YtipinmbpdgjalaaGreatDoor.Hi
