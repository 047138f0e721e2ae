/- ChooseWhole: the walk. -/
import Derived.Test.YtiiebakblkpkeaaGreatDoorWp
set_option maxRecDepth 100000
set_option maxHeartbeats 8000000
set_option linter.unusedVariables false
set_option linter.unusedSimpArgs false
namespace Go.Proofs.YtiiebakblkpkeaaGreatDoor.Hi
open Go.RowKit Go.Shelf Go.Sort Bs

/-- What Call answers where resolution answers. -/
theorem call_red {m : List EntM} {dn : Nat} {kind : Int} {r : RefM} {t : TyM} (h0 : (methodR m dn r).2 = 0) : Pr.formE (refOk r) = 0 ∧ (fitsE kind r = 0 ∨ fitsE kind r = 35) ∧ callE m (dn : Int) kind r t = if recvE m (dn : Int) kind t ≠ 0 then ((0, 0), recvE m (dn : Int) kind t) else if fitsE kind r ≠ 0 then ((0, 0), fitsE kind r) else callT m dn kind r t (flagsAt m (methodR m dn r).1) (methodR m dn r).1 := by
  have hf : Pr.formE (refOk r) = 0 := by
    refine Classical.byContradiction fun hn => ?_
    unfold methodR at h0
    rw [if_pos hn] at h0
    exact hn h0
  refine ⟨hf, ?_, ?_⟩
  · unfold fitsE
    rw [if_neg (by simpa using hf)]
    split
    · exact .inr rfl
    · split
      · exact .inr rfl
      · split
        · exact .inr rfl
        · exact .inl rfl
  · unfold callE
    rw [Int.toNat_natCast, if_neg (c := (methodR m dn r).2 ≠ 0) (by simpa using h0)]
theorem call_four {m : List EntM} {dn : Nat} (hd : dn < m.length) {r : RefM} {t : TyM} (h0 : (methodR m dn r).2 = 0) : callE m (dn : Int) 4 r t = ((0, 0), 35) ∨ callE m (dn : Int) 4 r t = if statF (flagsAt m (methodR m dn r).1) = true then ((methodR m dn r).1, 0) else ((0, 0), 23) := by
  obtain ⟨_, hf, e⟩ := call_red (kind := 4) (t := t) h0
  have hr : recvE m (dn : Int) 4 t = 0 := by
    unfold recvE
    rw [entAt_nat hd]
    rfl
  rw [e, if_neg (by simpa using hr)]
  rcases hf with h | h
  · right
    rw [if_neg (by simpa using h)]
    unfold callT
    cases statF (flagsAt m (methodR m dn r).1) with
    | true => simp
    | false => simp
  · left
    rw [if_pos (by rw [h]; decide), h]
theorem call_bad {m : List EntM} {dn : Nat} (hd : dn < m.length) {kind : Int} (hk : kind ≠ 4) {r : RefM} {t : TyM} (h0 : (methodR m dn r).2 = 0) (h : kind < 1 ∨ 4 < kind ∨ (holderM m t).2 ≠ 0 ∨ isIfaceM m (holderM m t).1 = true) : (callE m (dn : Int) kind r t).2 ≠ 0 := by
  obtain ⟨_, hf, e⟩ := call_red (kind := kind) (t := t) h0
  have hr : recvE m (dn : Int) kind t ≠ 0 := fun h1 => by
    obtain ⟨_, _, _, h2, h3, h4⟩ := recv_ok h1
    have := h4 hk
    rcases h with h | h | h | h
    · omega
    · omega
    · exact h this.1
    · rw [this.2] at h; cases h
  rw [e, if_pos hr]
  exact hr
theorem call_good {m : List EntM} {dn : Nat} (hd : dn < m.length) {kind : Int} (h1 : 1 ≤ kind) (h2 : kind < 4) {r : RefM} {t : TyM} (h0 : (methodR m dn r).2 = 0) (hh : (holderM m t).2 = 0) (hi : isIfaceM m (holderM m t).1 = false) (h35 : (callE m (dn : Int) kind r t).2 ≠ 35) : callE m (dn : Int) kind r t = callT m dn kind r t (flagsAt m (methodR m dn r).1) (methodR m dn r).1 := by
  obtain ⟨_, hf, e⟩ := call_red (kind := kind) (t := t) h0
  have hr : recvE m (dn : Int) kind t = 0 := by
    unfold recvE
    rw [entAt_nat hd]
    simp only
    rw [if_neg (by simp only [Bool.or_eq_true, decide_eq_true_eq, not_or]; omega), if_neg (by simp only [beq_iff_eq]; omega), if_pos hh, if_neg (by rw [hi]; decide)]
  rw [e, if_neg (by simpa using hr)] at h35 ⊢
  rcases hf with h | h
  · rw [if_neg (by simpa using h)]
  · rw [if_pos (by rw [h]; decide), h] at h35
    exact absurd rfl h35
/-- Resolution, of any class. -/
def resM (m : List EntM) (d : Int) (r : RefM) : (Int × Int) × Int := match entAt m d with
  | none => ((0, 0), 3)
  | some _ => methodR m d.toNat r
theorem RMethodAll {B bw : Nat} {w0 w : World} {m : List EntM} (h : Built B bw w0 w m) (d : Int) (r : RefM) (h1 : r.cls.size ≤ maxLen) (h2 : r.name.size ≤ maxLen) (h3 : r.desc.size ≤ maxLen) (he : Lf.Env w) :
    Calls Tryz.prog 22 #[.pointer (some ⟨bw, 0, none⟩), .int .i64 d, .agg #[.bool r.iface, .string r.cls, .string r.name, .string r.desc]] w fun x w' => x = .returned (.tuple #[.agg #[.int .i64 (resM m d r).1.1, .int .i64 (resM m d r).1.2], .int .i64 (resM m d r).2]) ∧ Below w.heap.size w w' := by
  unfold resM
  cases her : entAt m d with
  | none => exact RMethod_far h her r
  | some e =>
    obtain ⟨k, rfl, hk, _⟩ := entAt_some her
    exact RMethod h hk r h1 h2 h3 he
theorem call_none {m : List EntM} {d kind : Int} {r : RefM} {t : TyM} (h : (resM m d r).2 ≠ 0) : (callE m d kind r t).1 = (0, 0) ∧ (callE m d kind r t).2 ≠ 0 := by
  unfold callE
  split
  · next h1 => exact ⟨rfl, h1⟩
  · next h1 =>
    split
    · next h2 => exact ⟨rfl, h2⟩
    · obtain ⟨k, rfl, hk, _⟩ := recv_ok (Classical.not_not.1 h1)
      unfold resM at h
      rw [entAt_nat hk] at h
      rw [if_pos h]
      exact ⟨rfl, h⟩

theorem ChooseWhole (a : Option Addr) (cp : Nat) (xs : List ClsM) (d : Int) (hwd : (Lit.int .i64 d).wf = true) (kind : Int) (hwk : (Lit.int .i64 kind).wf = true) (r : RefM) (t : TyM) (w : World) (hx : ClsSl (fun b => b < w.heap.size) w (.slice a xs.length cp) xs) (hr : r.cls.size ≤ maxLen ∧ r.name.size ≤ maxLen ∧ r.desc.size ≤ maxLen) (ht : t.name.size ≤ maxLen) (he : Lf.Env w) :
    Calls Tryz.prog 7 #[.slice a xs.length cp, .int .i64 d, .int .i64 kind, .agg #[.bool r.iface, .string r.cls, .string r.name, .string r.desc], .agg #[.int .i64 t.dims, .string t.name]] w fun e w' => e = .returned (.bool true) ∧ Below w.heap.size w w' := by
  obtain ⟨wq, hwq⟩ : ∃ wq, (w.alloc (.cells #[.bool r.iface, .string r.cls, .string r.name, .string r.desc] 30)) = wq := ⟨_, rfl⟩
  have hbq : Below w.heap.size w wq := by rw [← hwq]; exact (Below.refl _ _).alloc (Nat.le_refl _) _
  have hr0 : RefAt wq w.heap.size r := by rw [← hwq]; exact RefAt.start w r
  obtain ⟨wa, hwa⟩ : ∃ wa, (wq.alloc (.cells #[.int .i64 t.dims, .string t.name] 33)) = wa := ⟨_, rfl⟩
  have hbp : Below wq.heap.size wq wa := by rw [← hwa]; exact (Below.refl _ _).alloc (Nat.le_refl _) _
  have p0 : wa.cell? ⟨wq.heap.size, 0, none⟩ = some (.int .i64 t.dims) := by rw [← hwa]; exact World.cell?_alloc_new ..
  have p1 : wa.cell? ⟨wq.heap.size, 1, none⟩ = some (.string t.name) := by rw [← hwa]; exact World.cell?_alloc_new ..
  have hba := hbq.trans (hbp.mono hbq.size)
  have HBA := Lib.hid hba
  have HP := Lib.hid (And.intro p0 p1)
  have HRF := Lib.hid (hr0.next hbp)
  have HX := Lib.hid (hx.nextO hba)
  have HE := Lib.hid (he.below hba)
  have HAW := Lib.hid (awake12 wa)
  have HSZ := Lib.hid (And.intro hr.1 (And.intro hr.2.1 (And.intro hr.2.2 ht)))
  clear hx he hbq hr0 hbp hba p0 p1 hr ht hwd hwk
  go_enter Tryz.func7, Tryz.ntmps7
  go_wp2_with fail
  try rw [hwq]
  try rw [hwa]
  clear hwq hwa
  refine HAW.out.mono ?_
  rintro e w1 ⟨rfl, hb1⟩
  have HBU := Lib.hid (built12 a cp xs w1 (HX.out.nextO hb1) (HE.out.below hb1))
  have HB1 := Lib.hid (HBA.out.trans (hb1.mono HBA.out.size))
  have HP1 := Lib.hid (And.intro (below_cell' hb1 HP.out.1) (below_cell' hb1 HP.out.2))
  have HRF1 := Lib.hid (HRF.out.next hb1)
  have HE1 := Lib.hid (HE.out.below hb1)
  clear hb1 HX HE HAW HBA HP HRF
  go_wp2_with fail
  refine HBU.out.mono ?_
  rintro e w2 ⟨rfl, h2⟩
  have H2 := Lib.hid h2
  have HB2 := Lib.hid (HB1.out.trans (h2.below.mono HB1.out.size))
  have HRF2 := Lib.hid (HRF1.out.next h2.below)
  have p0 := below_cell' h2.below HP1.out.1
  have p1 := below_cell' h2.below HP1.out.2
  have HP2 := Lib.hid (And.intro p0 p1)
  have HE2 := Lib.hid (HE1.out.below h2.below)
  clear h2 HBU HB1 HP1 HRF1 HE1
  generalize w1.heap.size = B at H2
  generalize defs xs = m at H2
  have HWF := Lib.hid H2.out.wf
  have HO := Lib.hid H2.out.ord
  have HH := Lib.hid (fun wr (hr : Below w2.heap.size w2 wr) => H2.out.next hr)
  have HEE := Lib.hid (fun wr (hr : Below w2.heap.size w2 wr) => HE2.out.below hr)
  have HC := Lib.hid (CCall H2.out d kind r t HSZ.out.1 HSZ.out.2.1 HSZ.out.2.2.1 HSZ.out.2.2.2 HE2.out)
  obtain ⟨⟨⟨c1, c2⟩, ce⟩, hC⟩ : ∃ C, callE m d kind r t = C := ⟨_, rfl⟩
  rw [hC] at HC
  simp only at HC
  have HCE := Lib.hid hC
  have r0 := HRF2.out.r0
  have r1 := HRF2.out.r1
  have r2 := HRF2.out.r2
  have r3 := HRF2.out.r3
  clear hC H2 HE2
  go_wp2_with fail
  refine HC.out.mono ?_
  rintro _ w3 ⟨rfl, hb⟩
  obtain ⟨wi, hwi⟩ : ∃ wi, (w3.alloc (.cells #[.int .i64 c1, .int .i64 c2] 24)) = wi := ⟨_, rfl⟩
  have hbi : Below w3.heap.size w3 wi := by rw [← hwi]; exact (Below.refl _ _).alloc (Nat.le_refl _) _
  have i0 : wi.cell? ⟨w3.heap.size, 0, none⟩ = some (.int .i64 c1) := by rw [← hwi]; exact World.cell?_alloc_new ..
  have i1 : wi.cell? ⟨w3.heap.size, 1, none⟩ = some (.int .i64 c2) := by rw [← hwi]; exact World.cell?_alloc_new ..
  have hb' := hb.trans (hbi.mono hb.size)
  have HBW := Lib.hid hb'
  have HRF3 := Lib.hid (HRF2.out.next hb')
  have HP3 := Lib.hid (And.intro (below_cell' hb' HP2.out.1) (below_cell' hb' HP2.out.2))
  have HI3 := Lib.hid (And.intro i0 i1)
  have HM := Lib.hid (RMethodAll (HH.out wi hb') d r HSZ.out.1 HSZ.out.2.1 HSZ.out.2.2.1 (HEE.out wi hb'))
  have HCN := Lib.hid (fun h => call_none (m := m) (d := d) (kind := kind) (r := r) (t := t) h)
  obtain ⟨⟨⟨n1, n2⟩, ne⟩, hN⟩ : ∃ Q, resM m d r = Q := ⟨_, rfl⟩
  rw [hN] at HM HCN
  rw [HCE.out] at HCN
  simp only at HM HCN
  have HNE := Lib.hid hN
  clear hb hbi hb' HC HRF2 HP2 r0 r1 r2 r3 p0 p1 hN
  have r0 := HRF3.out.r0
  have r1 := HRF3.out.r1
  have r2 := HRF3.out.r2
  have r3 := HRF3.out.r3
  go_wp2_with fail
  try rw [hwi]
  clear hwi
  refine HM.out.mono ?_
  rintro _ w4 ⟨rfl, hb⟩
  obtain ⟨wj, hwj⟩ : ∃ wj, (w4.alloc (.cells #[.int .i64 n1, .int .i64 n2] 24)) = wj := ⟨_, rfl⟩
  have hbj : Below w4.heap.size w4 wj := by rw [← hwj]; exact (Below.refl _ _).alloc (Nat.le_refl _) _
  have j0 : wj.cell? ⟨w4.heap.size, 0, none⟩ = some (.int .i64 n1) := by rw [← hwj]; exact World.cell?_alloc_new ..
  have j1 : wj.cell? ⟨w4.heap.size, 1, none⟩ = some (.int .i64 n2) := by rw [← hwj]; exact World.cell?_alloc_new ..
  have hb' := hb.trans (hbj.mono hb.size)
  have HB4 := Lib.hid (HBW.out.trans (hb'.mono HBW.out.size))
  have HRF4 := Lib.hid (HRF3.out.next hb')
  have HP4 := Lib.hid (And.intro (below_cell' hb' HP3.out.1) (below_cell' hb' HP3.out.2))
  have i0 := below_cell' hb' HI3.out.1
  have i1 := below_cell' hb' HI3.out.2
  have HI4 := Lib.hid (And.intro i0 i1)
  have HJ4 := Lib.hid (And.intro j0 j1)
  clear hb hbj hb' HM HRF3 HP3 HI3 HBW r0 r1 r2 r3
  have HWW := Lib.hid (fun wr (hr : Below w2.heap.size w2 wr) => HB2.out.trans (hr.mono HB2.out.size))
  by_cases hne : ne = 0
  case neg =>
    have hne' : (ne != 0) = true := by simpa using hne
    obtain ⟨hz, hce⟩ := HCN.out hne
    obtain ⟨rfl, rfl⟩ : 0 = c1 ∧ 0 = c2 := by
      simp only [Prod.ext_iff] at hz
      exact ⟨hz.1.symm, hz.2.symm⟩
    have hce' : (ce == 0) = false := by simpa using hce
    have HRI := Lib.hid (fun w => RID 0 0 0 0 w)
    rw [beq_self_eq_true] at HRI
    have HBE := Lib.hid (HWW.out wj HB4.out)
    clear hz hne hce HCN HCE HNE HRF4 HP4 HI4 HJ4 j0 j1
    go_wp2_with fail
    try rw [hwj]
    clear hwj
    refine (HRI.out _).mono ?_
    rintro _ w5 ⟨rfl, hb⟩
    have HB5 := Lib.hid (HBE.out.trans (hb.mono HBE.out.size))
    clear hb
    go_wp2
    go_ret
    exact ⟨rfl, HB5.out⟩
  subst hne
  obtain ⟨dn, rfl, hdn, hmr⟩ : ∃ dn : Nat, d = dn ∧ dn < m.length ∧ methodR m dn r = ((n1, n2), 0) := by
    have h := HNE.out
    unfold resM at h
    cases her : entAt m d with
    | none => rw [her] at h; simp [Prod.ext_iff] at h
    | some e =>
      obtain ⟨k, rfl, hk, _⟩ := entAt_some her
      rw [her] at h
      exact ⟨k, rfl, hk, h⟩
  have h0 : (methodR m dn r).2 = 0 := by rw [hmr]
  have hm1 : (methodR m dn r).1 = (n1, n2) := by rw [hmr]
  obtain ⟨y, hy, hfl, z1, z2⟩ := meth_there HWF.out HO.out hdn h0
  rw [hm1] at hy hfl
  have HMM := Lib.hid (OMethod_some (HH.out wj HB4.out) hy)
  have HFOUR := Lib.hid (fun t => call_four hdn (r := r) (t := t) h0)
  have HBAD := Lib.hid (fun hk h => call_bad hdn (kind := kind) hk (r := r) (t := t) h0 h)
  have HGOOD := Lib.hid (fun h1 h2 h3 h4 h5 => call_good hdn (kind := kind) h1 h2 (r := r) (t := t) h0 h3 h4 h5)
  rw [hm1, hfl] at HFOUR HGOOD
  have HDN := Lib.hid hdn
  have HCO := Lib.hid (class_ok (method_ok h0).1)
  have HFE := Lib.hid (form_ref (call_red (kind := kind) (t := t) h0).1)
  clear h0 hm1 hmr hdn hfl z1 z2 HNE HCN HMM
  have HYM := Lib.hid hy
  clear hy
  go_upto_region 6 with fail
  try rw [hwj]
  clear hwj
  go_cut [52] from 47 to 51 (fun s52 wx => Hid (s52 = .bool false ∧ Below wj.heap.size wj wx))
  case first =>
    cases hz : (ce == 0)
    all_goals
      go_wp2_with fail
      go_meet
      exact Lib.hid ⟨rfl, Below.refl _ _⟩
  case rest =>
  obtain ⟨rfl, hbc⟩ := hcut.out
  clear hcut i0 i1 j0 j1
  obtain ⟨w44, rfl⟩ : ∃ w9, w9 = wc := ⟨_, rfl⟩
  have HB44 := Lib.hid (HB4.out.trans (hbc.mono HB4.out.size))
  have HRF44 := Lib.hid (HRF4.out.next hbc)
  have HP44 := Lib.hid (And.intro (below_cell' hbc HP4.out.1) (below_cell' hbc HP4.out.2))
  have i0 := below_cell' hbc HI4.out.1
  have i1 := below_cell' hbc HI4.out.2
  have HI44 := Lib.hid (And.intro i0 i1)
  have j0 := below_cell' hbc HJ4.out.1
  have j1 := below_cell' hbc HJ4.out.2
  have HJ44 := Lib.hid (And.intro j0 j1)
  have HMM := Lib.hid (OMethod_some (HH.out w44 HB44.out) HYM.out)
  clear hbc HB4 HRF4 HP4 HI4 HJ4
  go_wp2_with fail
  refine HMM.out.mono ?_
  rintro _ w5 ⟨ya, yq, yc, rfl, hb⟩
  obtain ⟨wy, hwy⟩ : ∃ wy, (w5.alloc (.cells #[.string y.name, .string y.desc, .int .i64 y.flags, .int .i64 y.locals, .int .i64 y.stack, .slice ya yq yc] 39)) = wy := ⟨_, rfl⟩
  have hby : Below w5.heap.size w5 wy := by rw [← hwy]; exact (Below.refl _ _).alloc (Nat.le_refl _) _
  have y2 : wy.cell? ⟨w5.heap.size, 2, none⟩ = some (.int .i64 y.flags) := by rw [← hwy]; exact World.cell?_alloc_new ..
  have hb' := hb.trans (hby.mono hb.size)
  have HB5 := Lib.hid (HB44.out.trans (hb'.mono HB44.out.size))
  have HRF5 := Lib.hid (HRF44.out.next hb')
  have p0 := below_cell' hb' HP44.out.1
  have p1 := below_cell' hb' HP44.out.2
  have HP5 := Lib.hid (And.intro p0 p1)
  have i0 := below_cell' hb' HI44.out.1
  have i1 := below_cell' hb' HI44.out.2
  have HI5 := Lib.hid (And.intro i0 i1)
  have j0 := below_cell' hb' HJ44.out.1
  have j1 := below_cell' hb' HJ44.out.2
  have HJ5 := Lib.hid (And.intro j0 j1)
  have HY5 := Lib.hid y2
  have HBE := Lib.hid (HWW.out wy HB5.out)
  clear hb hby hb' HMM HRF44 HP44 HI44 HJ44 HB44
  cases hk4 : (kind == 4) with
  | true =>
    obtain rfl : kind = 4 := by simpa using hk4
    have HF4 := Lib.hid (HFOUR.out t)
    rw [HCE.out] at HF4
    cases hst : (bits .and .i64 y.flags 8 != 0) with
    | true =>
      have hsf : statF y.flags = true := by unfold statF; exact hst
      rcases HF4.out with h | h
      · obtain ⟨_, rfl⟩ : ((c1, c2) = (0, 0)) ∧ ce = 35 := by simpa only [Prod.ext_iff] using h
        clear h hsf HF4 HFOUR HBAD HGOOD HCE HCO HFE HRF5 HP5 HI5 HJ5 HY5 p0 p1 i0 i1 j0 j1
        go_wp2
        try rw [hwy]
        go_ret
        exact ⟨rfl, HBE.out⟩
      · rw [if_pos hsf] at h
        obtain ⟨⟨rfl, rfl⟩, rfl⟩ : (c1 = n1 ∧ c2 = n2) ∧ ce = 0 := by simpa only [Prod.ext_iff] using h
        have HRI := Lib.hid (fun w => RID c1 c2 c1 c2 w)
        rw [beq_self_eq_true, beq_self_eq_true] at HRI
        clear h hsf HF4 HFOUR HBAD HGOOD HCE HCO HFE HRF5 HP5 HI5 HJ5 HY5 p0 p1
        go_wp2_with fail
        try rw [hwy]
        clear hwy
        refine (HRI.out _).mono ?_
        rintro _ w6 ⟨rfl, hb⟩
        have HB6 := Lib.hid (HBE.out.trans (hb.mono HBE.out.size))
        clear hb
        go_wp2
        go_ret
        exact ⟨rfl, HB6.out⟩
    | false =>
      have hsf : statF y.flags = false := by unfold statF; exact hst
      rcases HF4.out with h | h
      · obtain ⟨_, rfl⟩ : ((c1, c2) = (0, 0)) ∧ ce = 35 := by simpa only [Prod.ext_iff] using h
        clear h hsf HF4 HFOUR HBAD HGOOD HCE HCO HFE HRF5 HP5 HI5 HJ5 HY5 p0 p1 i0 i1 j0 j1
        go_wp2
        try rw [hwy]
        go_ret
        exact ⟨rfl, HBE.out⟩
      · rw [if_neg (by rw [hsf]; decide)] at h
        obtain ⟨_, rfl⟩ : ((c1, c2) = (0, 0)) ∧ ce = 23 := by simpa only [Prod.ext_iff] using h
        clear h hsf HF4 HFOUR HBAD HGOOD HCE HCO HFE HRF5 HP5 HI5 HJ5 HY5 p0 p1 i0 i1 j0 j1
        go_wp2
        try rw [hwy]
        go_ret
        exact ⟨rfl, HBE.out⟩
  | false =>
    have hk4n : kind ≠ 4 := by simpa using hk4
    have HBAD1 := Lib.hid (HBAD.out hk4n)
    rw [HCE.out] at HBAD1
    simp only at HBAD1
    have HK4N := Lib.hid hk4n
    have HHO := Lib.hid (Holder_all (HH.out wy HB5.out) t HSZ.out.2.2.2 (HEE.out wy HB5.out))
    have HHL := Lib.hid (fun h => holder_lt (m := m) (t := t) (by have := HDN.out; omega) h)
    obtain ⟨⟨hh, hhe⟩, hH⟩ : ∃ H, holderM m t = H := ⟨_, rfl⟩
    have HHE := Lib.hid hH
    rw [hH] at HHO HBAD1 HGOOD HHL
    simp only at HHO HBAD1 HGOOD HHL
    clear HFOUR HBAD hk4n hH
    go_wp2_with fail
    try rw [hwy]
    clear hwy
    refine HHO.out.mono ?_
    rintro _ w6 ⟨rfl, hb⟩
    have HB6 := Lib.hid (HB5.out.trans (hb.mono HB5.out.size))
    have HRF6 := Lib.hid (HRF5.out.next hb)
    have HP6 := Lib.hid (And.intro (below_cell' hb HP5.out.1) (below_cell' hb HP5.out.2))
    have HI6 := Lib.hid (And.intro (below_cell' hb HI5.out.1) (below_cell' hb HI5.out.2))
    have HJ6 := Lib.hid (And.intro (below_cell' hb HJ5.out.1) (below_cell' hb HJ5.out.2))
    have HY6 := Lib.hid (below_cell' hb HY5.out)
    have HBE := Lib.hid (HWW.out w6 HB6.out)
    clear hb HHO HRF5 HP5 HI5 HJ5 HY5 p0 p1 i0 i1 j0 j1 y2 HB5
    cases hk1 : decide (kind < 1) with
    | true =>
      have hce : (ce != 0) = true := by simpa using HBAD1.out (.inl (of_decide_eq_true hk1))
      clear HBAD1 HGOOD HHL HCO HFE HRF6 HP6 HI6 HJ6 HY6 HCE HHE HK4N
      go_wp2
      go_ret
      exact ⟨rfl, HBE.out⟩
    | false =>
      cases hk5 : decide (4 < kind) with
      | true =>
        have hce : (ce != 0) = true := by simpa using HBAD1.out (.inr (.inl (of_decide_eq_true hk5)))
        clear HBAD1 HGOOD HHL HCO HFE HRF6 HP6 HI6 HJ6 HY6 HCE HHE HK4N
        go_wp2
        go_ret
        exact ⟨rfl, HBE.out⟩
      | false =>
        by_cases hhz : hhe = 0
        case neg =>
          have hhz' : (hhe != 0) = true := by simpa using hhz
          have hce : (ce != 0) = true := by simpa using HBAD1.out (.inr (.inr (.inl hhz)))
          clear hhz HBAD1 HGOOD HHL HCO HFE HRF6 HP6 HI6 HJ6 HY6 HCE HHE HK4N
          go_wp2
          go_ret
          exact ⟨rfl, HBE.out⟩
        subst hhz
        have HKB : Hid (1 ≤ kind ∧ kind < 4) := Lib.hid (by
          have a := of_decide_eq_false hk1
          have b := of_decide_eq_false hk5
          have := HK4N.out
          omega)
        have HI := Lib.hid ((HH.out w6 HB6.out).isIface hh)
        go_wp2_with fail
        refine HI.out.mono ?_
        rintro _ w7 ⟨rfl, hb⟩
        have HB7 := Lib.hid (HB6.out.trans (hb.mono HB6.out.size))
        have HRF7 := Lib.hid (HRF6.out.next hb)
        have HP7 := Lib.hid (And.intro (below_cell' hb HP6.out.1) (below_cell' hb HP6.out.2))
        have HI7 := Lib.hid (And.intro (below_cell' hb HI6.out.1) (below_cell' hb HI6.out.2))
        have HJ7 := Lib.hid (And.intro (below_cell' hb HJ6.out.1) (below_cell' hb HJ6.out.2))
        have HY7 := Lib.hid (below_cell' hb HY6.out)
        have HBE := Lib.hid (HWW.out w7 HB7.out)
        clear hb HI HRF6 HP6 HI6 HJ6 HY6 HB6
        cases hif : isIfaceM m hh with
        | true =>
          have hce : (ce != 0) = true := by simpa using HBAD1.out (.inr (.inr (.inr hif)))
          clear hif HBAD1 HGOOD HHL HCO HFE HRF7 HP7 HI7 HJ7 HY7 HCE HHE HK4N
          go_wp2
          go_ret
          exact ⟨rfl, HBE.out⟩
        | false =>
          by_cases h35 : ce = 35
          · subst h35
            clear hif HBAD1 HGOOD HHL HCO HFE HRF7 HP7 HI7 HJ7 HY7 HCE HHE HK4N
            go_wp2
            go_ret
            exact ⟨rfl, HBE.out⟩
          have h35' : (ce == 35) = false := by simpa using h35
          have HG : Hid (callT m dn kind r t y.flags (n1, n2) = ((c1, c2), ce)) := Lib.hid (by
            have h := HGOOD.out HKB.out.1 HKB.out.2 (by trivial) hif (by rw [HCE.out]; exact h35)
            rw [HCE.out] at h
            exact h.symm)
          unfold callT at HG
          rw [hk4] at HG
          have HLT := Lib.hid (HHL.out (by trivial)).1
          have HRC := Lib.hid (RClass (HH.out w7 HB7.out) HDN.out r.cls HSZ.out.1 (HEE.out w7 HB7.out))
          rw [HCO.out.2.2.2] at HRC
          simp only at HRC
          have r1 := HRF7.out.r1
          clear hif h35 HBAD1 HGOOD HHL HK4N HCE
          go_wp2_with fail
          refine HRC.out.mono ?_
          rintro _ w8 ⟨rfl, hb⟩
          obtain ⟨wt, hwt⟩ : ∃ wt, (w8.alloc (.cells #[.int .i64 (refT r.cls).dims, .string (refT r.cls).name] 33)) = wt := ⟨_, rfl⟩
          have hbt : Below w8.heap.size w8 wt := by rw [← hwt]; exact (Below.refl _ _).alloc (Nat.le_refl _) _
          have y0 : wt.cell? ⟨w8.heap.size, 0, none⟩ = some (.int .i64 (refT r.cls).dims) := by rw [← hwt]; exact World.cell?_alloc_new ..
          have y1 : wt.cell? ⟨w8.heap.size, 1, none⟩ = some (.string (refT r.cls).name) := by rw [← hwt]; exact World.cell?_alloc_new ..
          have hb' := hb.trans (hbt.mono hb.size)
          have HB8 := Lib.hid (HB7.out.trans (hb'.mono HB7.out.size))
          have HRF8 := Lib.hid (HRF7.out.next hb')
          have p0 := below_cell' hb' HP7.out.1
          have p1 := below_cell' hb' HP7.out.2
          have HI8 := Lib.hid (And.intro (below_cell' hb' HI7.out.1) (below_cell' hb' HI7.out.2))
          have HJ8 := Lib.hid (And.intro (below_cell' hb' HJ7.out.1) (below_cell' hb' HJ7.out.2))
          have HY8 := Lib.hid (below_cell' hb' HY7.out)
          have HSB := Lib.hid (ASub (HH.out wt HB8.out) t (refT r.cls) HSZ.out.2.2.2 (name_fits HFE.out) (HEE.out wt HB8.out) HLT.out HCO.out.2.1)
          clear hb hbt hb' HRC HRF7 HP7 HI7 HJ7 HY7 HB7 r1 HLT HCO HFE
          generalize refT r.cls = T at *
          go_wp2_with fail
          try rw [hwt]
          clear hwt
          refine HSB.out.mono ?_
          rintro _ w9 ⟨rfl, hb⟩
          have HB9 := Lib.hid (HB8.out.trans (hb.mono HB8.out.size))
          have HRF9 := Lib.hid (HRF8.out.next hb)
          have HI9 := Lib.hid (And.intro (below_cell' hb HI8.out.1) (below_cell' hb HI8.out.2))
          have j0 := below_cell' hb HJ8.out.1
          have j1 := below_cell' hb HJ8.out.2
          have HJ9 := Lib.hid (And.intro j0 j1)
          have y2 := below_cell' hb HY8.out
          have HBE := Lib.hid (HWW.out w9 HB9.out)
          clear hb HSB HRF8 HI8 HJ8 HY8 HB8 y0 y1 p0 p1
          cases hst : (bits .and .i64 y.flags 8 != 0) with
          | true =>
            have hsf : statF y.flags = true := by unfold statF; exact hst
            have h := HG.out
            rw [hsf, if_pos (c := (true != false) = true) (by decide)] at h
            obtain ⟨_, rfl⟩ : ((0, 0) = (c1, c2)) ∧ 23 = ce := by simpa only [Prod.ext_iff] using h
            clear h hsf HG HRF9 HI9 HJ9 HHE j0 j1
            go_wp2
            go_ret
            exact ⟨rfl, HBE.out⟩
          | false =>
            have hsf : statF y.flags = false := by unfold statF; exact hst
            have HG1 : Hid ((if ((kind == 2) && (bits .and .i64 y.flags 2 != 0)) = true then ((0, 0), 23) else if belowM m t T = true then callS m dn kind r (holderM m t).1 (n1, n2) else ((0, 0), 23)) = ((c1, c2), ce)) := Lib.hid (by
              have h := HG.out
              rw [hsf, if_neg (by decide), if_neg (c := false = true) (by decide)] at h
              exact h)
            rw [HHE.out] at HG1
            clear hsf HG HHE
            cases hbl : belowM m t T with
            | false =>
              obtain ⟨_, rfl⟩ : ((0, 0) = (c1, c2)) ∧ 23 = ce := by
                have h := HG1.out
                rw [hbl, if_neg (c := false = true) (by decide), ite_self] at h
                simpa only [Prod.ext_iff] using h
              clear hbl HG1 HRF9 HI9 HJ9 j0 j1
              go_wp2
              go_ret
              exact ⟨rfl, HBE.out⟩
            | true =>
              have HG2 : Hid ((if ((kind == 2) && (bits .and .i64 y.flags 2 != 0)) = true then ((0, 0), 23) else callS m dn kind r hh (n1, n2)) = ((c1, c2), ce)) := Lib.hid (by
                have h := HG1.out
                rw [hbl, if_pos rfl] at h
                exact h)
              unfold callS at HG2
              have HV := Lib.hid (CVirtual (HH.out w9 HB9.out) hh (n1, n2))
              have HRI := Lib.hid (fun w => RID c1 c2 c1 c2 w)
              rw [beq_self_eq_true, beq_self_eq_true] at HRI
              obtain ⟨⟨⟨u1, u2⟩, ue⟩, hU⟩ : ∃ U, virM m hh (n1, n2) = U := ⟨_, rfl⟩
              rw [hU] at HV HG2
              simp only at HV
              clear hU hbl HG1
              cases hk2 : (kind == 2) with
              | true =>
                obtain rfl : kind = 2 := by simpa using hk2
                cases hpr : (bits .and .i64 y.flags 2 != 0) with
                | true =>
                  obtain ⟨_, rfl⟩ : ((0, 0) = (c1, c2)) ∧ 23 = ce := by
                    have h := HG2.out
                    rw [hpr, if_pos (by rfl)] at h
                    simpa only [Prod.ext_iff] using h
                  clear HG2 HV HRI HRF9 HI9 HJ9 j0 j1
                  go_wp2
                  go_ret
                  exact ⟨rfl, HBE.out⟩
                | false =>
                  have HG3 : Hid (itfM m hh (n1, n2) = ((c1, c2), ce)) := Lib.hid (by
                    have h := HG2.out
                    rw [hpr, if_neg (by decide), if_neg (by decide), if_pos (by rfl)] at h
                    exact h)
                  have HIT := Lib.hid (fun wr (hr : Below w2.heap.size w2 wr) => CInterface (HH.out wr hr) hh (n1, n2))
                  rw [HG3.out] at HIT
                  simp only at HIT
                  clear HG2 HG3 HRF9
                  go_wp2_with fail
                  refine HV.out.mono ?_
                  rintro _ w10 ⟨rfl, hb⟩
                  obtain ⟨wv, hwv⟩ : ∃ wv, (w10.alloc (.cells #[.int .i64 u1, .int .i64 u2] 24)) = wv := ⟨_, rfl⟩
                  have hbv : Below w10.heap.size w10 wv := by rw [← hwv]; exact (Below.refl _ _).alloc (Nat.le_refl _) _
                  have v0 : wv.cell? ⟨w10.heap.size, 0, none⟩ = some (.int .i64 u1) := by rw [← hwv]; exact World.cell?_alloc_new ..
                  have v1 : wv.cell? ⟨w10.heap.size, 1, none⟩ = some (.int .i64 u2) := by rw [← hwv]; exact World.cell?_alloc_new ..
                  have hz : ∀ j, wv.frozen? ⟨w10.heap.size, j, none⟩ = false := fun j => by rw [← hwv]; exact frozen_new ..
                  have hb' := hb.trans (hbv.mono hb.size)
                  have HLW : Hid (w2.heap.size ≤ w10.heap.size) := Lib.hid (Nat.le_trans HB9.out.size hb.size)
                  have HB10 := Lib.hid (HB9.out.trans (hb'.mono HB9.out.size))
                  have HI10 := Lib.hid (And.intro (below_cell' hb' HI9.out.1) (below_cell' hb' HI9.out.2))
                  have j0 := below_cell' hb' HJ9.out.1
                  have j1 := below_cell' hb' HJ9.out.2
                  have HIX := Lib.hid (HIT.out wv HB10.out)
                  have HV10 := Lib.hid (And.intro v0 (And.intro v1 hz))
                  have HLI : Hid (w3.heap.size < w10.heap.size) := Lib.hid (World.block_lt_of_cell? w10 ⟨w3.heap.size, 0, none⟩ (below_cell' hb HI9.out.1))
                  clear hb hbv hb' HV HI9 HJ9 y2 hz v0 v1 HIT
                  go_wp2_with fail
                  try rw [hwv]
                  clear hwv
                  refine HIX.out.mono ?_
                  rintro _ w11 ⟨rfl, hb⟩
                  have v0 := below_cell' hb HV10.out.1
                  have v1 := below_cell' hb HV10.out.2.1
                  have f0 : w11.frozen? ⟨w10.heap.size, 0, none⟩ = false := (World.frozen?_of_block (w := wv) (a := ⟨w10.heap.size, 0, none⟩) (hb.block _ (World.block_lt_of_cell? wv ⟨w10.heap.size, 0, none⟩ HV10.out.1))).trans (HV10.out.2.2 0)
                  have f1 : w11.frozen? ⟨w10.heap.size, 1, none⟩ = false := (World.frozen?_of_block (w := wv) (a := ⟨w10.heap.size, 1, none⟩) (hb.block _ (World.block_lt_of_cell? wv ⟨w10.heap.size, 0, none⟩ HV10.out.1))).trans (HV10.out.2.2 1)
                  obtain ⟨k0, k1⟩ := set2 (v0 := .int .i64 c1) (v1 := .int .i64 c2) v0 v1
                  have i0 : ((w11.setCell ⟨w10.heap.size, 0, none⟩ (.int .i64 c1)).setCell ⟨w10.heap.size, 1, none⟩ (.int .i64 c2)).cell? ⟨w3.heap.size, 0, none⟩ = some (.int .i64 c1) := (setCell_off (.inl (Nat.ne_of_gt HLI.out))).trans ((setCell_off (.inl (Nat.ne_of_gt HLI.out))).trans (below_cell' hb HI10.out.1))
                  have i1 : ((w11.setCell ⟨w10.heap.size, 0, none⟩ (.int .i64 c1)).setCell ⟨w10.heap.size, 1, none⟩ (.int .i64 c2)).cell? ⟨w3.heap.size, 1, none⟩ = some (.int .i64 c2) := (setCell_off (.inl (Nat.ne_of_gt HLI.out))).trans ((setCell_off (.inl (Nat.ne_of_gt HLI.out))).trans (below_cell' hb HI10.out.2))
                  have hl9 := HLW.out
                  have HB11 := Lib.hid (HWW.out _ (((HB10.out.trans (hb.mono HB10.out.size)).setCell hl9 (.int .i64 c1) (p := ⟨w10.heap.size, 0, none⟩)).setCell hl9 (.int .i64 c2) (p := ⟨w10.heap.size, 1, none⟩)))
                  clear hb HIX HI10 HV10 HB10 hl9 j0 j1
                  obtain ⟨w12, hw12⟩ : ∃ w12, ((w11.setCell ⟨w10.heap.size, 0, none⟩ (.int .i64 c1)).setCell ⟨w10.heap.size, 1, none⟩ (.int .i64 c2)) = w12 := ⟨_, rfl⟩
                  rw [hw12] at k0 k1 i0 i1 HB11
                  go_wp2_with fail
                  try rw [hw12]
                  clear hw12
                  refine (HRI.out _).mono ?_
                  rintro _ w13 ⟨rfl, hb⟩
                  have HB13 := Lib.hid (HB11.out.trans (hb.mono HB11.out.size))
                  clear hb
                  go_wp2
                  go_ret
                  exact ⟨rfl, HB13.out⟩
              | false =>
                cases hk3 : (kind == 3) with
                | true =>
                  obtain rfl : kind = 3 := by simpa using hk3
                  have HG3 : Hid (spM m (dn : Int) r (n1, n2) = ((c1, c2), ce)) := Lib.hid (by
                    have h := HG2.out
                    rw [if_neg (by simp), if_neg (by decide), if_neg (by decide)] at h
                    exact h)
                  have HIT := Lib.hid (fun wr (hr : Below w2.heap.size w2 wr) => CSpecial (HH.out wr hr) (dn : Int) r (n1, n2) HSZ.out.1 HSZ.out.2.1 HSZ.out.2.2.1 (HEE.out wr hr))
                  rw [HG3.out] at HIT
                  simp only at HIT
                  clear HG2 HG3
                  go_wp2_with fail
                  refine HV.out.mono ?_
                  rintro _ w10 ⟨rfl, hb⟩
                  obtain ⟨wv, hwv⟩ : ∃ wv, (w10.alloc (.cells #[.int .i64 u1, .int .i64 u2] 24)) = wv := ⟨_, rfl⟩
                  have hbv : Below w10.heap.size w10 wv := by rw [← hwv]; exact (Below.refl _ _).alloc (Nat.le_refl _) _
                  have v0 : wv.cell? ⟨w10.heap.size, 0, none⟩ = some (.int .i64 u1) := by rw [← hwv]; exact World.cell?_alloc_new ..
                  have v1 : wv.cell? ⟨w10.heap.size, 1, none⟩ = some (.int .i64 u2) := by rw [← hwv]; exact World.cell?_alloc_new ..
                  have hz : ∀ j, wv.frozen? ⟨w10.heap.size, j, none⟩ = false := fun j => by rw [← hwv]; exact frozen_new ..
                  have hb' := hb.trans (hbv.mono hb.size)
                  have HLW : Hid (w2.heap.size ≤ w10.heap.size) := Lib.hid (Nat.le_trans HB9.out.size hb.size)
                  have HB10 := Lib.hid (HB9.out.trans (hb'.mono HB9.out.size))
                  have HI10 := Lib.hid (And.intro (below_cell' hb' HI9.out.1) (below_cell' hb' HI9.out.2))
                  have j0 := below_cell' hb' HJ9.out.1
                  have j1 := below_cell' hb' HJ9.out.2
                  have r0 := (HRF9.out.next hb').r0
                  have r1 := (HRF9.out.next hb').r1
                  have r2 := (HRF9.out.next hb').r2
                  have r3 := (HRF9.out.next hb').r3
                  have HIX := Lib.hid (HIT.out wv HB10.out)
                  have HV10 := Lib.hid (And.intro v0 (And.intro v1 hz))
                  have HLI : Hid (w3.heap.size < w10.heap.size) := Lib.hid (World.block_lt_of_cell? w10 ⟨w3.heap.size, 0, none⟩ (below_cell' hb HI9.out.1))
                  clear hb hbv hb' HV HI9 HJ9 y2 hz v0 v1 HIT HRF9
                  go_wp2_with fail
                  try rw [hwv]
                  clear hwv
                  refine HIX.out.mono ?_
                  rintro _ w11 ⟨rfl, hb⟩
                  have v0 := below_cell' hb HV10.out.1
                  have v1 := below_cell' hb HV10.out.2.1
                  have f0 : w11.frozen? ⟨w10.heap.size, 0, none⟩ = false := (World.frozen?_of_block (w := wv) (a := ⟨w10.heap.size, 0, none⟩) (hb.block _ (World.block_lt_of_cell? wv ⟨w10.heap.size, 0, none⟩ HV10.out.1))).trans (HV10.out.2.2 0)
                  have f1 : w11.frozen? ⟨w10.heap.size, 1, none⟩ = false := (World.frozen?_of_block (w := wv) (a := ⟨w10.heap.size, 1, none⟩) (hb.block _ (World.block_lt_of_cell? wv ⟨w10.heap.size, 0, none⟩ HV10.out.1))).trans (HV10.out.2.2 1)
                  obtain ⟨k0, k1⟩ := set2 (v0 := .int .i64 c1) (v1 := .int .i64 c2) v0 v1
                  have i0 : ((w11.setCell ⟨w10.heap.size, 0, none⟩ (.int .i64 c1)).setCell ⟨w10.heap.size, 1, none⟩ (.int .i64 c2)).cell? ⟨w3.heap.size, 0, none⟩ = some (.int .i64 c1) := (setCell_off (.inl (Nat.ne_of_gt HLI.out))).trans ((setCell_off (.inl (Nat.ne_of_gt HLI.out))).trans (below_cell' hb HI10.out.1))
                  have i1 : ((w11.setCell ⟨w10.heap.size, 0, none⟩ (.int .i64 c1)).setCell ⟨w10.heap.size, 1, none⟩ (.int .i64 c2)).cell? ⟨w3.heap.size, 1, none⟩ = some (.int .i64 c2) := (setCell_off (.inl (Nat.ne_of_gt HLI.out))).trans ((setCell_off (.inl (Nat.ne_of_gt HLI.out))).trans (below_cell' hb HI10.out.2))
                  have hl9 := HLW.out
                  have HB11 := Lib.hid (HWW.out _ (((HB10.out.trans (hb.mono HB10.out.size)).setCell hl9 (.int .i64 c1) (p := ⟨w10.heap.size, 0, none⟩)).setCell hl9 (.int .i64 c2) (p := ⟨w10.heap.size, 1, none⟩)))
                  clear hb HIX HI10 HV10 HB10 hl9 j0 j1 r0 r1 r2 r3
                  obtain ⟨w12, hw12⟩ : ∃ w12, ((w11.setCell ⟨w10.heap.size, 0, none⟩ (.int .i64 c1)).setCell ⟨w10.heap.size, 1, none⟩ (.int .i64 c2)) = w12 := ⟨_, rfl⟩
                  rw [hw12] at k0 k1 i0 i1 HB11
                  go_wp2_with fail
                  try rw [hw12]
                  clear hw12
                  refine (HRI.out _).mono ?_
                  rintro _ w13 ⟨rfl, hb⟩
                  have HB13 := Lib.hid (HB11.out.trans (hb.mono HB11.out.size))
                  clear hb
                  go_wp2
                  go_ret
                  exact ⟨rfl, HB13.out⟩
                | false =>
                  obtain rfl : kind = 1 := by
                    have := HKB.out
                    have a : kind ≠ 2 := by simpa using hk2
                    have b : kind ≠ 3 := by simpa using hk3
                    omega
                  have HG3 : Hid (((u1, u2), ue) = ((c1, c2), ce)) := Lib.hid (by
                    have h := HG2.out
                    rw [if_neg (by simp), if_pos (by rfl)] at h
                    exact h)
                  obtain ⟨⟨rfl, rfl⟩, rfl⟩ : (u1 = c1 ∧ u2 = c2) ∧ ue = ce := by simpa only [Prod.ext_iff] using HG3.out
                  clear HG2 HG3 HRF9 HJ9
                  go_wp2_with fail
                  refine HV.out.mono ?_
                  rintro _ w10 ⟨rfl, hb⟩
                  obtain ⟨wv, hwv⟩ : ∃ wv, (w10.alloc (.cells #[.int .i64 u1, .int .i64 u2] 24)) = wv := ⟨_, rfl⟩
                  have hbv : Below w10.heap.size w10 wv := by rw [← hwv]; exact (Below.refl _ _).alloc (Nat.le_refl _) _
                  have v0 : wv.cell? ⟨w10.heap.size, 0, none⟩ = some (.int .i64 u1) := by rw [← hwv]; exact World.cell?_alloc_new ..
                  have v1 : wv.cell? ⟨w10.heap.size, 1, none⟩ = some (.int .i64 u2) := by rw [← hwv]; exact World.cell?_alloc_new ..
                  have hb' := hb.trans (hbv.mono hb.size)
                  have HB10 := Lib.hid (HWW.out wv (HB9.out.trans (hb'.mono HB9.out.size)))
                  have i0 := below_cell' hb' HI9.out.1
                  have i1 := below_cell' hb' HI9.out.2
                  clear hb hbv hb' HV HI9 j0 j1 y2
                  go_wp2_with fail
                  try rw [hwv]
                  clear hwv
                  refine (HRI.out _).mono ?_
                  rintro _ w11 ⟨rfl, hb⟩
                  have HB11 := Lib.hid (HB10.out.trans (hb.mono HB10.out.size))
                  clear hb
                  go_wp2
                  go_ret
                  exact ⟨rfl, HB11.out⟩
end Go.Proofs.YtiiebakblkpkeaaGreatDoor.Hi
