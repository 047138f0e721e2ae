/- Selection: Special: the walk. -/
import Derived.Test.YtiiebakblkpkeaaGreatDoorWm
set_option maxRecDepth 100000
set_option maxHeartbeats 8000000
set_option linter.unusedVariables false
set_option linter.unusedSimpArgs false
namespace Go.Proofs.YtiiebakblkpkeaaGreatDoor.Hi
open Go.RowKit Go.Shelf Go.Sort Bs

theorem form_ref {r : RefM} (h : Pr.formE (refOk r) = 0) : refE r.cls = 0 := by
  unfold refOk Pr.refB Pr.formE at h
  unfold refE
  split at h
  · next hh =>
    simp only [Bool.and_eq_true, decide_eq_true_eq] at hh
    exact hh.1.1
  · cases h
theorem holder_lt {m : List EntM} (h0 : 0 < m.length) {t : TyM} (h : (holderM m t).2 = 0) : loadedE m t = 0 ∧ ∃ k : Nat, k < m.length ∧ (holderM m t).1 = (k : Int) := by
  unfold holderM at *
  by_cases hl : loadedE m t = 0
  · refine ⟨hl, ?_⟩
    rw [if_pos hl] at *
    cases hi : isIntM t with
    | true => rw [hi, if_pos rfl] at h; cases h
    | false =>
      rw [if_neg (by decide)]
      by_cases hd : 0 < t.dims
      · rw [if_pos hd]
        exact ⟨0, h0, rfl⟩
      · rw [if_neg hd]
        have hd0 : t.dims = 0 := by have := (tyOk_dims (loaded_tyOk hl)).1; omega
        obtain ⟨j, hj, e⟩ := loaded_name hl (by unfold isIntM at hi; rw [hd0] at hi; simpa using hi)
        exact ⟨j, hj, by rw [e]⟩
  · rw [if_neg hl] at h
    exact absurd h hl
theorem besK_there {m : List EntM} {c k : Nat} {n d : ByteArray} {q : Int × Int} (h : besK m c k n d = some q) : ∃ y, methAt m q = some y := by
  unfold besK at h
  split at h
  · split at h
    · cases h
    · next y hy =>
      split at h
      · obtain rfl := Option.some.inj h
        exact ⟨y, hy⟩
      · cases h
  · cases h
theorem bes_there {m : List EntM} {c : Nat} {n d : ByteArray} {q : Int × Int} (h : besM m c n d = some q) : ∃ y, methAt m q = some y := by
  unfold besM at h
  split at h
  · next q' hq =>
    obtain rfl := Option.some.inj h
    exact besK_there hq
  · exact besK_there h

/-- Whom invokespecial finds from a class on. -/
def spQ (m : List EntM) (c : Nat) (n d : ByteArray) : Option (Int × Int) := if isIfaceM m (c : Int) = true then besM m c n d else upE m n d c
def spA (m : List EntM) (c : Nat) (n d : ByteArray) : (Int × Int) × Int := match spQ m c n d with
  | none => oneM m c n d
  | some q => fndM m q
/-- What invokespecial selects, of a class and a method that are there. -/
def spE (m : List EntM) (d : Nat) (r : RefM) (x : MethM) (p : Int × Int) : (Int × Int) × Int :=
  if Pr.formE (refOk r) ≠ 0 then ((0, 0), Pr.formE (refOk r)) else if (holderM m (refT r.cls)).2 ≠ 0 then ((0, 0), (holderM m (refT r.cls)).2)
  else if statF x.flags = true then ((0, 0), 23) else if (x.name.toList == initN.toList) = true then (if (p.1 != (holderM m (refT r.cls)).1) = true then ((0, 0), 21) else fndM m p)
  else spA m (startC m d (holderM m (refT r.cls)).1 (refT r.cls) r.iface).toNat x.name x.desc
def spM (m : List EntM) (d : Int) (r : RefM) (p : Int × Int) : (Int × Int) × Int := match entAt m d, methAt m p with
  | some _, some x => spE m d.toNat r x p
  | _, _ => ((0, 0), 3)
theorem spM_none {m : List EntM} {d : Int} {r : RefM} {p : Int × Int} (h : entAt m d = none ∨ methAt m p = none) : spM m d r p = ((0, 0), 3) := by
  unfold spM
  rcases h with h | h <;> rw [h]
  cases entAt m d <;> rfl
theorem spM_some {m : List EntM} {k : Nat} (hk : k < m.length) {r : RefM} {p : Int × Int} {x : MethM} (hx : methAt m p = some x) : spM m (k : Int) r p = spE m k r x p := by
  unfold spM
  rw [entAt_nat hk, hx]
  rfl

/-- Of a class that is there: what invokespecial's search answers. -/
theorem spQ_there {m : List EntM} (hw : WFm m) (ho : OrdM m) {c : Nat} (hc : c < m.length) {n d : ByteArray} {q : Int × Int} (h : spQ m c n d = some q) : ∃ y, methAt m q = some y := by
  unfold spQ at h
  split at h
  · exact bes_there h
  · obtain ⟨_, y, hy, _⟩ := up_spec hw ho hc h
    exact ⟨y, hy⟩

theorem IdAt.off {w w1 : World} (h : IdAt w w1) {b : Nat} (hb : w.heap.size < b) (v0 v1 : Value) : IdAt w ((w1.setCell ⟨b, 0, none⟩ v0).setCell ⟨b, 1, none⟩ v1) :=
  ⟨(setCell_off (by omega)).trans ((setCell_off (by omega)).trans h.s0), (setCell_off (by omega)).trans ((setCell_off (by omega)).trans h.s1), fun j => by rw [World.frozen?_setCell, World.frozen?_setCell]; exact h.t j, (h.bel.setCell (Nat.le_of_lt hb) _).setCell (Nat.le_of_lt hb) _, by simpa using h.lt⟩

theorem CSpecial {B bw : Nat} {w0 w : World} {m : List EntM} (h : Built B bw w0 w m) (d : Int) (r : RefM) (p : Int × Int) (h1 : r.cls.size ≤ maxLen) (h2 : r.name.size ≤ maxLen) (h3 : r.desc.size ≤ maxLen) (he : Lf.Env w) :
    Calls Tryz.prog 12 #[.pointer (some ⟨bw, 0, none⟩), .int .i64 d, .agg #[.bool r.iface, .string r.cls, .string r.name, .string r.desc], .agg #[.int .i64 p.1, .int .i64 p.2]] w fun e w' => e = .returned (.tuple #[.agg #[.int .i64 (spM m d r p).1.1, .int .i64 (spM m d r p).1.2], .int .i64 (spM m d r p).2]) ∧ Below w.heap.size w w' := by
  obtain ⟨wq, hwq⟩ : ∃ wq, (w.alloc (.cells #[.bool r.iface, .string r.cls, .string r.name, .string r.desc] 30)) = wq := ⟨_, rfl⟩
  have hbq : Below w.heap.size w wq := by rw [← hwq]; exact (Below.refl _ _).alloc (Nat.le_refl _) _
  have hr0 : RefAt wq w.heap.size r := by rw [← hwq]; exact RefAt.start w r
  obtain ⟨wp, hwp⟩ : ∃ wp, (wq.alloc (.cells #[.int .i64 p.1, .int .i64 p.2] 24)) = wp := ⟨_, rfl⟩
  have hbp : Below wq.heap.size wq wp := by rw [← hwp]; exact (Below.refl _ _).alloc (Nat.le_refl _) _
  have p0 : wp.cell? ⟨wq.heap.size, 0, none⟩ = some (.int .i64 p.1) := by rw [← hwp]; exact World.cell?_alloc_new ..
  have p1 : wp.cell? ⟨wq.heap.size, 1, none⟩ = some (.int .i64 p.2) := by rw [← hwp]; exact World.cell?_alloc_new ..
  have HS := Lib.hid (IdAt.start wp)
  obtain ⟨wa, hwa⟩ : ∃ wa, (wp.alloc (.cells #[.int .i64 0, .int .i64 0] 24)) = wa := ⟨_, rfl⟩
  rw [hwa] at HS
  have q0 := below_cell' HS.out.bel p0
  have q1 := below_cell' HS.out.bel p1
  have HQ := Lib.hid (And.intro q0 q1)
  have HRF := Lib.hid ((hr0.next hbp).next HS.out.bel)
  have HBP := Lib.hid (hbq.trans (hbp.mono hbq.size))
  have hba := HBP.out.trans (HS.out.bel.mono HBP.out.size)
  have HK := Lib.hid (CKnown (h.next hba) d p)
  have HH := Lib.hid (fun wr (hr : IdAt wp wr) => h.next (HBP.out.trans (hr.bel.mono HBP.out.size)))
  have HE := Lib.hid (fun wr (hr : IdAt wp wr) => he.below (HBP.out.trans (hr.bel.mono HBP.out.size)))
  have HSZ := Lib.hid (And.intro h1 (And.intro h2 h3))
  have HWF := Lib.hid h.wf
  have HO := Lib.hid h.ord
  have HFIN : Hid (∀ w', IdAt wp w' → (w'.cell? ⟨wp.heap.size, 0, none⟩ = some (.int .i64 0) ∧ w'.cell? ⟨wp.heap.size, 1, none⟩ = some (.int .i64 0) ∧ ∀ j, w'.frozen? ⟨wp.heap.size, j, none⟩ = false) ∧ ∀ v0 v1, (∀ j (hj : j < [v0, v1].length), ((w'.setCell ⟨wp.heap.size, 0, none⟩ v0).setCell ⟨wp.heap.size, 1, none⟩ v1).cell? ⟨wp.heap.size, j, none⟩ = some [v0, v1][j]) ∧ Below w.heap.size w ((w'.setCell ⟨wp.heap.size, 0, none⟩ v0).setCell ⟨wp.heap.size, 1, none⟩ v1)) := Lib.hid (fun w' h =>
    ⟨⟨h.s0, h.s1, h.t⟩, fun v0 v1 => ⟨h.two v0 v1, HBP.out.trans ((h.end v0 v1).mono HBP.out.size)⟩⟩)
  obtain ⟨R, hR⟩ : ∃ R, spM m d r p = R := ⟨_, rfl⟩
  have HR := Lib.hid hR
  rw [hR]
  clear h hbq hr0 hbp p0 p1 hba hR he h1 h2 h3
  go_enter Tryz.func12, Tryz.ntmps12
  go_wp2_with fail
  try rw [hwq]
  try rw [hwp]
  try rw [hwa]
  clear hwq hwp hwa
  refine HK.out.mono ?_
  rintro _ w1 ⟨nm, ds, f, l, s, ad, q, c, er, rfl, g, k, hb⟩
  obtain ⟨wx, hwx⟩ : ∃ wx, (w1.alloc (.cells #[.string nm, .string ds, .int .i64 f, .int .i64 l, .int .i64 s, .slice ad q c] 39)) = wx := ⟨_, rfl⟩
  have hbx : Below w1.heap.size w1 wx := by rw [← hwx]; exact (Below.refl _ _).alloc (Nat.le_refl _) _
  have x0 : wx.cell? ⟨w1.heap.size, 0, none⟩ = some (.string nm) := by rw [← hwx]; exact World.cell?_alloc_new ..
  have x1 : wx.cell? ⟨w1.heap.size, 1, none⟩ = some (.string ds) := by rw [← hwx]; exact World.cell?_alloc_new ..
  have x2 : wx.cell? ⟨w1.heap.size, 2, none⟩ = some (.int .i64 f) := by rw [← hwx]; exact World.cell?_alloc_new ..
  have x3 : wx.cell? ⟨w1.heap.size, 3, none⟩ = some (.int .i64 l) := by rw [← hwx]; exact World.cell?_alloc_new ..
  have x4 : wx.cell? ⟨w1.heap.size, 4, none⟩ = some (.int .i64 s) := by rw [← hwx]; exact World.cell?_alloc_new ..
  have x5 : wx.cell? ⟨w1.heap.size, 5, none⟩ = some (.slice ad q c) := by rw [← hwx]; exact World.cell?_alloc_new ..
  have hb' := hb.trans (hbx.mono hb.size)
  have HS1 := Lib.hid (HS.out.next hb')
  have HRF1 := Lib.hid (HRF.out.next hb')
  have HQ1 := Lib.hid (And.intro (below_cell' hb' HQ.out.1) (below_cell' hb' HQ.out.2))
  have HX := Lib.hid (And.intro x0 (And.intro x1 (And.intro x2 (And.intro x3 (And.intro x4 x5)))))
  have G := Lib.hid g
  have K := Lib.hid k
  clear hb hbx hb' HK HS HRF HQ g k x0 x1 x2 x3 x4 x5 q0 q1
  by_cases z : er = 0
  case neg =>
    obtain ⟨hn, rfl⟩ := K.out z
    have HR3 : Hid (R = ((0, 0), 3)) := Lib.hid (by rw [← HR.out]; exact spM_none hn)
    clear z hn K G HR HX HQ1 HRF1
    obtain rfl := HR3.out
    obtain ⟨⟨s0, s1, st⟩, hfin⟩ := HFIN.out wx HS1.out
    have t0 := st 0
    have t1 := st 1
    have HFI := Lib.hid hfin
    clear HFIN st hfin HH HE
    go_wp2
    try rw [hwx]
    refine bodyPost_ret (results_cells_tmp rfl _ _ (wp.heap.size) [.int .i64 0, .int .i64 0] _ rfl (HFI.out _ _).1 Tryz.underlying24 rfl id_info2) rfl ⟨rfl, (HFI.out _ _).2⟩
  subst z
  obtain ⟨dn, x, rfl, hdn, hx, rfl, rfl, rfl⟩ := G.out rfl
  have HRE : Hid (spE m dn r x p = R) := Lib.hid (by rw [← HR.out]; exact (spM_some hdn hx).symm)
  have HXM := Lib.hid hx
  have HDN := Lib.hid hdn
  have HCK := Lib.hid (by
    have := Pr.RefCheck r.iface r.cls.data.toList r.name.data.toList r.desc.data.toList wx (by rw [← Pr.ba_size, Pr.ba_of]; exact HSZ.out.1) (by rw [← Pr.ba_size, Pr.ba_of]; exact HSZ.out.2.1) (by rw [← Pr.ba_size, Pr.ba_of]; exact HSZ.out.2.2) (HE.out wx HS1.out)
    rw [Pr.ba_of, Pr.ba_of, Pr.ba_of] at this
    exact this)
  have HFE : Hid (Pr.refB r.cls.data.toList r.name.data.toList r.desc.data.toList = refOk r) := Lib.hid rfl
  rw [HFE.out] at HCK
  have HF0 := Lib.hid (fun (h : Pr.formE (refOk r) = 0) => form_ref h)
  unfold spE at HRE
  generalize Pr.formE (refOk r) = fm at HCK HRE HF0
  have r0 := HRF1.out.r0
  have r1 := HRF1.out.r1
  have r2 := HRF1.out.r2
  have r3 := HRF1.out.r3
  clear G K HR hdn hx HFE
  go_wp2_with fail
  try rw [hwx]
  clear hwx
  refine HCK.out.mono ?_
  rintro _ w2 ⟨rfl, hb⟩
  have HS2 := Lib.hid (HS1.out.next hb)
  have HRF2 := Lib.hid (HRF1.out.next hb)
  have HQ2 := Lib.hid (And.intro (below_cell' hb HQ1.out.1) (below_cell' hb HQ1.out.2))
  have HX2 := Lib.hid (And.intro (below_cell' hb HX.out.1) (And.intro (below_cell' hb HX.out.2.1) (And.intro (below_cell' hb HX.out.2.2.1) (And.intro (below_cell' hb HX.out.2.2.2.1) (And.intro (below_cell' hb HX.out.2.2.2.2.1) (below_cell' hb HX.out.2.2.2.2.2))))))
  clear hb HCK HS1 HRF1 HQ1 HX r0 r1 r2 r3
  by_cases hfm : fm = 0
  case neg =>
    have hfm' : (fm != 0) = true := by simpa using hfm
    have HR3 : Hid (R = ((0, 0), fm)) := Lib.hid (by rw [← HRE.out, if_pos hfm])
    clear hfm HRE HF0 HXM HDN HX2 HQ2 HRF2
    obtain rfl := HR3.out
    obtain ⟨⟨s0, s1, st⟩, hfin⟩ := HFIN.out w2 HS2.out
    have t0 := st 0
    have t1 := st 1
    have HFI := Lib.hid hfin
    clear HFIN st hfin HH HE
    go_wp2
    refine bodyPost_ret (results_cells_tmp rfl _ _ (wp.heap.size) [.int .i64 0, .int .i64 0] _ rfl (HFI.out _ _).1 Tryz.underlying24 rfl id_info2) rfl ⟨rfl, (HFI.out _ _).2⟩
  subst hfm
  have HE0 := Lib.hid (HF0.out rfl)
  have HRE1 : Hid ((if (holderM m (refT r.cls)).2 ≠ 0 then ((0, 0), (holderM m (refT r.cls)).2)
    else if statF x.flags = true then ((0, 0), 23) else if (x.name.toList == initN.toList) = true then (if (p.1 != (holderM m (refT r.cls)).1) = true then ((0, 0), 21) else fndM m p)
    else spA m (startC m dn (holderM m (refT r.cls)).1 (refT r.cls) r.iface).toNat x.name x.desc) = R) := Lib.hid (by
    have h := HRE.out
    rw [if_neg (by simp)] at h
    exact h)
  have HPR := Lib.hid (by
    have := Pr.ParseRef r.cls.data.toList w2 (by rw [← Pr.ba_size, Pr.ba_of]; exact HSZ.out.1) (HE.out w2 HS2.out)
    rw [Pr.ba_of] at this
    exact this)
  have HPE : Hid ((Pr.refTyM r.cls.data.toList).dims = (refT r.cls).dims ∧ Pr.ba (Pr.refTyM r.cls.data.toList).name = (refT r.cls).name ∧ (Pr.refTyM r.cls.data.toList).err = refE r.cls) := Lib.hid ⟨rfl, rfl, rfl⟩
  rw [HPE.out.1, HPE.out.2.1, HPE.out.2.2, HE0.out] at HPR
  have HHO := Lib.hid (fun wr (hr : IdAt wp wr) => Holder_all (HH.out wr hr) (refT r.cls) (name_fits HE0.out) (HE.out wr hr))
  have HHL := Lib.hid (fun h => holder_lt (m := m) (t := refT r.cls) (by have := HDN.out; omega) h)
  obtain ⟨T, hT⟩ : ∃ T, refT r.cls = T := ⟨_, rfl⟩
  rw [hT] at HPR HHO HRE1 HHL
  obtain ⟨⟨hh, he⟩, hH⟩ : ∃ H, holderM m T = H := ⟨_, rfl⟩
  rw [hH] at HHO HRE1 HHL
  simp only at HHO HRE1 HHL
  have r1 := HRF2.out.r1
  clear hH hT HRE HPE HE0 HF0
  go_wp2_with fail
  refine HPR.out.mono ?_
  rintro _ w3 ⟨rfl, hb⟩
  obtain ⟨wt, hwt⟩ : ∃ wt, (w3.alloc (.cells #[.int .i64 T.dims, .string T.name] 33)) = wt := ⟨_, rfl⟩
  have hbt : Below w3.heap.size w3 wt := by rw [← hwt]; exact (Below.refl _ _).alloc (Nat.le_refl _) _
  have y0 : wt.cell? ⟨w3.heap.size, 0, none⟩ = some (.int .i64 T.dims) := by rw [← hwt]; exact World.cell?_alloc_new ..
  have y1 : wt.cell? ⟨w3.heap.size, 1, none⟩ = some (.string T.name) := by rw [← hwt]; exact World.cell?_alloc_new ..
  have hb' := hb.trans (hbt.mono hb.size)
  have HS3 := Lib.hid (HS2.out.next hb')
  have HRF3 := Lib.hid (HRF2.out.next hb')
  have HQ3 := Lib.hid (And.intro (below_cell' hb' HQ2.out.1) (below_cell' hb' HQ2.out.2))
  have HX3 := Lib.hid (And.intro (below_cell' hb' HX2.out.1) (And.intro (below_cell' hb' HX2.out.2.1) (And.intro (below_cell' hb' HX2.out.2.2.1) (And.intro (below_cell' hb' HX2.out.2.2.2.1) (And.intro (below_cell' hb' HX2.out.2.2.2.2.1) (below_cell' hb' HX2.out.2.2.2.2.2))))))
  have HT3 := Lib.hid (And.intro y0 y1)
  have HHX := Lib.hid (HHO.out wt HS3.out)
  clear hb hbt hb' HS2 HRF2 HQ2 HX2 HPR r1 HHO
  go_wp2_with fail
  try rw [hwt]
  clear hwt
  refine HHX.out.mono ?_
  rintro _ w4 ⟨rfl, hb⟩
  have HS4 := Lib.hid (HS3.out.next hb)
  have HRF4 := Lib.hid (HRF3.out.next hb)
  have q0 := below_cell' hb HQ3.out.1
  have q1 := below_cell' hb HQ3.out.2
  have HX4 := Lib.hid (And.intro (below_cell' hb HX3.out.1) (And.intro (below_cell' hb HX3.out.2.1) (And.intro (below_cell' hb HX3.out.2.2.1) (And.intro (below_cell' hb HX3.out.2.2.2.1) (And.intro (below_cell' hb HX3.out.2.2.2.2.1) (below_cell' hb HX3.out.2.2.2.2.2))))))
  have HT4 := Lib.hid (And.intro (below_cell' hb HT3.out.1) (below_cell' hb HT3.out.2))
  have x0 := HX4.out.1
  have x2 := HX4.out.2.2.1
  clear hb HHX HS3 HRF3 HQ3 HX3 HT3 y0 y1
  by_cases hhe : he = 0
  case neg =>
    have hhe' : (he != 0) = true := by simpa using hhe
    have HR3 : Hid (R = ((0, 0), he)) := Lib.hid (by rw [← HRE1.out, if_pos hhe])
    clear hhe HRE1 HHL HXM HDN HX4 HRF4 HT4 x0 x2 q0 q1
    obtain rfl := HR3.out
    obtain ⟨⟨s0, s1, st⟩, hfin⟩ := HFIN.out w4 HS4.out
    have t0 := st 0
    have t1 := st 1
    have HFI := Lib.hid hfin
    clear HFIN st hfin HH HE
    go_wp2
    refine bodyPost_ret (results_cells_tmp rfl _ _ (wp.heap.size) [.int .i64 0, .int .i64 0] _ rfl (HFI.out _ _).1 Tryz.underlying24 rfl id_info2) rfl ⟨rfl, (HFI.out _ _).2⟩
  subst hhe
  obtain ⟨hlo, hn, hnl, rfl⟩ := HHL.out rfl
  have HNL := Lib.hid hnl
  have HRE2 : Hid ((if statF x.flags = true then ((0, 0), 23) else if (x.name.toList == initN.toList) = true then (if (p.1 != (hn : Int)) = true then ((0, 0), 21) else fndM m p)
    else spA m (startC m dn (hn : Int) T r.iface).toNat x.name x.desc) = R) := Lib.hid (by
    have h := HRE1.out
    rw [if_neg (by simp)] at h
    exact h)
  have hinit : initN.toList = [60, 105, 110, 105, 116, 62] := by decide +kernel
  rw [hinit] at HRE2
  clear hnl hlo HRE1 HHL hinit
  cases hst : statF x.flags with
  | true =>
    have HR3 : Hid (R = ((0, 0), 23)) := Lib.hid (by rw [← HRE2.out, if_pos hst])
    have hst' : (bits .and .i64 x.flags 8 != 0) = true := by unfold statF at hst; exact hst
    clear hst HRE2 HXM HDN HX4 HRF4 HT4 x0 q0 q1
    obtain rfl := HR3.out
    obtain ⟨⟨s0, s1, st⟩, hfin⟩ := HFIN.out w4 HS4.out
    have t0 := st 0
    have t1 := st 1
    have HFI := Lib.hid hfin
    clear HFIN st hfin HH HE
    go_wp2
    refine bodyPost_ret (results_cells_tmp rfl _ _ (wp.heap.size) [.int .i64 0, .int .i64 0] _ rfl (HFI.out _ _).1 Tryz.underlying24 rfl id_info2) rfl ⟨rfl, (HFI.out _ _).2⟩
  | false =>
    have hst' : (bits .and .i64 x.flags 8 != 0) = false := by unfold statF at hst; exact hst
    have HRE3 : Hid ((if (x.name.toList == [60, 105, 110, 105, 116, 62]) = true then (if (p.1 != (hn : Int)) = true then ((0, 0), 21) else fndM m p) else spA m (startC m dn (hn : Int) T r.iface).toNat x.name x.desc) = R) := Lib.hid (by
      have h := HRE2.out
      rw [if_neg (by rw [hst]; decide)] at h
      exact h)
    clear hst HRE2
    cases hin : (x.name.toList == [60, 105, 110, 105, 116, 62]) with
    | true =>
      have HRE4 : Hid ((if (p.1 != (hn : Int)) = true then ((0, 0), 21) else fndM m p) = R) := Lib.hid (by rw [← HRE3.out, if_pos hin])
      cases hpc : (p.1 != (hn : Int)) with
      | true =>
        have HR3 : Hid (R = ((0, 0), 21)) := Lib.hid (by rw [← HRE4.out, if_pos hpc])
        clear HRE3 HRE4 HXM HDN HX4 HRF4 HT4 q1
        obtain rfl := HR3.out
        obtain ⟨⟨s0, s1, st⟩, hfin⟩ := HFIN.out w4 HS4.out
        have t0 := st 0
        have t1 := st 1
        have HFI := Lib.hid hfin
        clear HFIN st hfin HH HE
        go_wp2
        refine bodyPost_ret (results_cells_tmp rfl _ _ (wp.heap.size) [.int .i64 0, .int .i64 0] _ rfl (HFI.out _ _).1 Tryz.underlying24 rfl id_info2) rfl ⟨rfl, (HFI.out _ _).2⟩
      | false =>
        have HRQ : Hid (fndM m p = R) := Lib.hid (by rw [← HRE4.out, if_neg (by rw [hpc]; decide)])
        have HC := Lib.hid (CFound (HH.out w4 HS4.out) HXM.out)
        rw [HRQ.out] at HC
        clear HRE3 HRE4 HRQ HDN HX4 HRF4 HT4
        go_wp2_with fail
        refine HC.out.mono ?_
        rintro _ w5 ⟨rfl, hb⟩
        have HS5 := Lib.hid (HS4.out.next hb)
        obtain ⟨⟨s0, s1, st⟩, hfin⟩ := HFIN.out w5 HS5.out
        have t0 := st 0
        have t1 := st 1
        have HFI := Lib.hid hfin
        clear hb HS4 HC hfin st x0 x2 q0 q1
        go_wp2
        refine bodyPost_ret (results_cells_tmp rfl _ _ (wp.heap.size) [.int .i64 R.1.1, .int .i64 R.1.2] _ rfl (HFI.out _ _).1 Tryz.underlying24 rfl id_info2) rfl ⟨rfl, (HFI.out _ _).2⟩
    | false =>
      have HRE4 : Hid (spA m (startC m dn (hn : Int) T r.iface).toNat x.name x.desc = R) := Lib.hid (by rw [← HRE3.out, if_neg (by rw [hin]; decide)])
      have HST := Lib.hid (CStart (HH.out w4 HS4.out) HDN.out (hn : Int) T r)
      obtain ⟨cn, hcn, hce⟩ := start_lt12 HWF.out HDN.out HNL.out T r.iface
      rw [hce] at HST HRE4
      rw [Int.toNat_natCast] at HRE4
      have HCN := Lib.hid hcn
      have r0 := HRF4.out.r0
      have r1 := HRF4.out.r1
      have r2 := HRF4.out.r2
      have r3 := HRF4.out.r3
      have y0 := HT4.out.1
      have y1 := HT4.out.2
      clear HRE3 hcn hce HNL HXM
      go_wp2_with fail
      refine HST.out.mono ?_
      rintro _ w5 ⟨rfl, hb⟩
      have HS5 := Lib.hid (HS4.out.next hb)
      have HX5 := Lib.hid (And.intro (below_cell' hb HX4.out.1) (And.intro (below_cell' hb HX4.out.2.1) (And.intro (below_cell' hb HX4.out.2.2.1) (And.intro (below_cell' hb HX4.out.2.2.2.1) (And.intro (below_cell' hb HX4.out.2.2.2.2.1) (below_cell' hb HX4.out.2.2.2.2.2))))))
      clear hb HST HS4 HRF4 HX4 HT4 r0 r1 r2 r3 y0 y1 x0 x2 q0 q1 HDN
      have HLT5 : Hid (wp.heap.size < w5.heap.size ∧ w1.heap.size < w5.heap.size) := Lib.hid ⟨HS5.out.lt, World.block_lt_of_cell? w5 ⟨w1.heap.size, 0, none⟩ HX5.out.1⟩
      obtain ⟨wi, hwi⟩ : ∃ wi, (w5.alloc (.cells #[.int .i64 0, .int .i64 0] 24)) = wi := ⟨_, rfl⟩
      have hbi : Below w5.heap.size w5 wi := by rw [← hwi]; exact (Below.refl _ _).alloc (Nat.le_refl _) _
      have HI5 := Lib.hid (IdAt.start w5)
      rw [hwi] at HI5
      have HS6 := Lib.hid (HS5.out.next hbi)
      have HX6 := Lib.hid (And.intro (below_cell' hbi HX5.out.1) (And.intro (below_cell' hbi HX5.out.2.1) (And.intro (below_cell' hbi HX5.out.2.2.1) (And.intro (below_cell' hbi HX5.out.2.2.2.1) (And.intro (below_cell' hbi HX5.out.2.2.2.2.1) (below_cell' hbi HX5.out.2.2.2.2.2))))))
      have HIF := Lib.hid ((HH.out wi HS6.out).isIface (cn : Int))
      clear hbi HS5 HX5
      go_wp2_with fail
      try rw [hwi]
      clear hwi
      refine HIF.out.mono ?_
      rintro _ w6 ⟨rfl, hb⟩
      have HS7 := Lib.hid (HS6.out.next hb)
      have HI7 := Lib.hid (HI5.out.next hb)
      have HX7 := Lib.hid (And.intro (below_cell' hb HX6.out.1) (And.intro (below_cell' hb HX6.out.2.1) (And.intro (below_cell' hb HX6.out.2.2.1) (And.intro (below_cell' hb HX6.out.2.2.2.1) (And.intro (below_cell' hb HX6.out.2.2.2.2.1) (below_cell' hb HX6.out.2.2.2.2.2))))))
      have x0 := HX7.out.1
      have x1 := HX7.out.2.1
      have x2 := HX7.out.2.2.1
      have x3 := HX7.out.2.2.2.1
      have x4 := HX7.out.2.2.2.2.1
      have x5 := HX7.out.2.2.2.2.2
      clear hb HS6 HI5 HX6 HIF
      cases hci : isIfaceM m (cn : Int)
      case false =>
        have HC1 := Lib.hid (CUp (HH.out w6 HS7.out) HCN.out x.name x.desc x.flags l s ad q c)
        have HQM : Hid (spQ m cn x.name x.desc = upE m x.name x.desc cn) := Lib.hid (by unfold spQ; rw [if_neg (by rw [hci]; decide)])
        clear hci
        go_wp2_with fail
        refine HC1.out.mono ?_
        rintro _ w7 ⟨i1, i2, nm2, ds2, f2, l2, s2, ad2, q2, c2, ok, rfl, hno, hyes, hb⟩
        have hs7 := HS7.out.next hb
        have hi7 := HI7.out.next hb
        have m0 := hi7.s0
        have m1 := hi7.s1
        have u0 := hi7.t 0
        have u1 := hi7.t 1
        obtain ⟨k0, k1⟩ := set2 (v0 := .int .i64 i1) (v1 := .int .i64 i2) m0 m1
        have hs8 := hs7.off HLT5.out.1 (.int .i64 i1) (.int .i64 i2)
        have z0 : ((w7.setCell ⟨w5.heap.size, 0, none⟩ (.int .i64 i1)).setCell ⟨w5.heap.size, 1, none⟩ (.int .i64 i2)).cell? ⟨w1.heap.size, 0, none⟩ = some (.string x.name) := (setCell_off (.inl (Nat.ne_of_gt HLT5.out.2))).trans ((setCell_off (.inl (Nat.ne_of_gt HLT5.out.2))).trans (below_cell' hb HX7.out.1))
        have z1 : ((w7.setCell ⟨w5.heap.size, 0, none⟩ (.int .i64 i1)).setCell ⟨w5.heap.size, 1, none⟩ (.int .i64 i2)).cell? ⟨w1.heap.size, 1, none⟩ = some (.string x.desc) := (setCell_off (.inl (Nat.ne_of_gt HLT5.out.2))).trans ((setCell_off (.inl (Nat.ne_of_gt HLT5.out.2))).trans (below_cell' hb HX7.out.2.1))
        obtain ⟨w8, hw8⟩ : ∃ w8, ((w7.setCell ⟨w5.heap.size, 0, none⟩ (.int .i64 i1)).setCell ⟨w5.heap.size, 1, none⟩ (.int .i64 i2)) = w8 := ⟨_, rfl⟩
        rw [hw8] at hs8 k0 k1 z0 z1
        have HS8 := Lib.hid hs8
        have HNO := Lib.hid hno
        have HYES := Lib.hid hyes
        clear hs7 hs8 hi7 hb hno hyes HC1 HS7 HI7 HX7 x0 x1 x2 x3 x4 x5
        cases ok with
        | false =>
          have HQQ : Hid (spQ m cn x.name x.desc = none) := Lib.hid (by rw [HQM.out, HNO.out rfl])
          have HRQ : Hid (oneM m cn x.name x.desc = R) := Lib.hid (by rw [← HRE4.out]; unfold spA; rw [HQQ.out])
          have HC := Lib.hid (One (HH.out w8 HS8.out) HCN.out x.name x.desc)
          rw [HRQ.out] at HC
          unfold idV at HC
          clear HRQ HQQ HRE4 HNO HYES HQM
          go_wp2_with fail
          try rw [hw8]
          clear hw8
          refine HC.out.mono ?_
          rintro _ w9 ⟨rfl, hb⟩
          have HS9 := Lib.hid (HS8.out.next hb)
          clear k0 k1 m0 m1 u0 u1 z0 z1
          obtain ⟨⟨s0, s1, st⟩, hfin⟩ := HFIN.out w9 HS9.out
          have t0 := st 0
          have t1 := st 1
          have HFI := Lib.hid hfin
          clear hb HC hfin st
          go_wp2
          refine bodyPost_ret (results_cells_tmp rfl _ _ (wp.heap.size) [.int .i64 R.1.1, .int .i64 R.1.2] _ rfl (HFI.out _ _).1 Tryz.underlying24 rfl id_info2) rfl ⟨rfl, (HFI.out _ _).2⟩
        | true =>
          have HQQ : Hid (spQ m cn x.name x.desc = some (i1, i2)) := Lib.hid (by rw [HQM.out, (HYES.out rfl).1])
          obtain ⟨y, hy⟩ := spQ_there HWF.out HO.out HCN.out HQQ.out
          have HRQ : Hid (fndM m (i1, i2) = R) := Lib.hid (by rw [← HRE4.out]; unfold spA; rw [HQQ.out])
          have HC := Lib.hid (CFound (HH.out w8 HS8.out) hy)
          rw [HRQ.out] at HC
          clear hy HRQ HQQ HRE4 HNO HYES HQM
          go_wp2_with fail
          try rw [hw8]
          clear hw8
          refine HC.out.mono ?_
          rintro _ w9 ⟨rfl, hb⟩
          have HS9 := Lib.hid (HS8.out.next hb)
          clear k0 k1 m0 m1 u0 u1 z0 z1
          obtain ⟨⟨s0, s1, st⟩, hfin⟩ := HFIN.out w9 HS9.out
          have t0 := st 0
          have t1 := st 1
          have HFI := Lib.hid hfin
          clear hb HC hfin st
          go_wp2
          refine bodyPost_ret (results_cells_tmp rfl _ _ (wp.heap.size) [.int .i64 R.1.1, .int .i64 R.1.2] _ rfl (HFI.out _ _).1 Tryz.underlying24 rfl id_info2) rfl ⟨rfl, (HFI.out _ _).2⟩
      case true =>
        have HC1 := Lib.hid (CBeside (HH.out w6 HS7.out) HCN.out x.name x.desc x.flags l s ad q c)
        have HQM : Hid (spQ m cn x.name x.desc = besM m cn x.name x.desc) := Lib.hid (by unfold spQ; rw [if_pos hci])
        clear hci
        go_wp2_with fail
        refine HC1.out.mono ?_
        rintro _ w7 ⟨i1, i2, ok, rfl, hno, hyes, hb⟩
        have hs7 := HS7.out.next hb
        have hi7 := HI7.out.next hb
        have m0 := hi7.s0
        have m1 := hi7.s1
        have u0 := hi7.t 0
        have u1 := hi7.t 1
        obtain ⟨k0, k1⟩ := set2 (v0 := .int .i64 i1) (v1 := .int .i64 i2) m0 m1
        have hs8 := hs7.off HLT5.out.1 (.int .i64 i1) (.int .i64 i2)
        have z0 : ((w7.setCell ⟨w5.heap.size, 0, none⟩ (.int .i64 i1)).setCell ⟨w5.heap.size, 1, none⟩ (.int .i64 i2)).cell? ⟨w1.heap.size, 0, none⟩ = some (.string x.name) := (setCell_off (.inl (Nat.ne_of_gt HLT5.out.2))).trans ((setCell_off (.inl (Nat.ne_of_gt HLT5.out.2))).trans (below_cell' hb HX7.out.1))
        have z1 : ((w7.setCell ⟨w5.heap.size, 0, none⟩ (.int .i64 i1)).setCell ⟨w5.heap.size, 1, none⟩ (.int .i64 i2)).cell? ⟨w1.heap.size, 1, none⟩ = some (.string x.desc) := (setCell_off (.inl (Nat.ne_of_gt HLT5.out.2))).trans ((setCell_off (.inl (Nat.ne_of_gt HLT5.out.2))).trans (below_cell' hb HX7.out.2.1))
        obtain ⟨w8, hw8⟩ : ∃ w8, ((w7.setCell ⟨w5.heap.size, 0, none⟩ (.int .i64 i1)).setCell ⟨w5.heap.size, 1, none⟩ (.int .i64 i2)) = w8 := ⟨_, rfl⟩
        rw [hw8] at hs8 k0 k1 z0 z1
        have HS8 := Lib.hid hs8
        have HNO := Lib.hid hno
        have HYES := Lib.hid hyes
        clear hs7 hs8 hi7 hb hno hyes HC1 HS7 HI7 HX7 x0 x1 x2 x3 x4 x5
        cases ok with
        | false =>
          have HQQ : Hid (spQ m cn x.name x.desc = none) := Lib.hid (by rw [HQM.out, HNO.out rfl])
          have HRQ : Hid (oneM m cn x.name x.desc = R) := Lib.hid (by rw [← HRE4.out]; unfold spA; rw [HQQ.out])
          have HC := Lib.hid (One (HH.out w8 HS8.out) HCN.out x.name x.desc)
          rw [HRQ.out] at HC
          unfold idV at HC
          clear HRQ HQQ HRE4 HNO HYES HQM
          go_wp2_with fail
          try rw [hw8]
          clear hw8
          refine HC.out.mono ?_
          rintro _ w9 ⟨rfl, hb⟩
          have HS9 := Lib.hid (HS8.out.next hb)
          clear k0 k1 m0 m1 u0 u1 z0 z1
          obtain ⟨⟨s0, s1, st⟩, hfin⟩ := HFIN.out w9 HS9.out
          have t0 := st 0
          have t1 := st 1
          have HFI := Lib.hid hfin
          clear hb HC hfin st
          go_wp2
          refine bodyPost_ret (results_cells_tmp rfl _ _ (wp.heap.size) [.int .i64 R.1.1, .int .i64 R.1.2] _ rfl (HFI.out _ _).1 Tryz.underlying24 rfl id_info2) rfl ⟨rfl, (HFI.out _ _).2⟩
        | true =>
          have HQQ : Hid (spQ m cn x.name x.desc = some (i1, i2)) := Lib.hid (by rw [HQM.out, HYES.out rfl])
          obtain ⟨y, hy⟩ := spQ_there HWF.out HO.out HCN.out HQQ.out
          have HRQ : Hid (fndM m (i1, i2) = R) := Lib.hid (by rw [← HRE4.out]; unfold spA; rw [HQQ.out])
          have HC := Lib.hid (CFound (HH.out w8 HS8.out) hy)
          rw [HRQ.out] at HC
          clear hy HRQ HQQ HRE4 HNO HYES HQM
          go_wp2_with fail
          try rw [hw8]
          clear hw8
          refine HC.out.mono ?_
          rintro _ w9 ⟨rfl, hb⟩
          have HS9 := Lib.hid (HS8.out.next hb)
          clear k0 k1 m0 m1 u0 u1 z0 z1
          obtain ⟨⟨s0, s1, st⟩, hfin⟩ := HFIN.out w9 HS9.out
          have t0 := st 0
          have t1 := st 1
          have HFI := Lib.hid hfin
          clear hb HC hfin st
          go_wp2
          refine bodyPost_ret (results_cells_tmp rfl _ _ (wp.heap.size) [.int .i64 R.1.1, .int .i64 R.1.2] _ rfl (HFI.out _ _).1 Tryz.underlying24 rfl id_info2) rfl ⟨rfl, (HFI.out _ _).2⟩
end Go.Proofs.YtiiebakblkpkeaaGreatDoor.Hi
