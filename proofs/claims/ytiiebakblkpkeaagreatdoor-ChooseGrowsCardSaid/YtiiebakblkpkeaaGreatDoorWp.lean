/- Selection: Call: the walk. -/
import Derived.Test.YtiiebakblkpkeaaGreatDoorWo
set_option maxRecDepth 100000
set_option maxHeartbeats 8000000
set_option linter.unusedVariables false
set_option linter.unusedSimpArgs false
namespace Go.Proofs.YtiiebakblkpkeaaGreatDoor.Hi
open Go.RowKit Go.Shelf Go.Sort Bs

/-- What an invocation of a kind selects, of a receiver's class. -/
def callS (m : List EntM) (d : Nat) (kind : Int) (r : RefM) (hh : Int) (q : Int × Int) : (Int × Int) × Int :=
  if (kind == 1) = true then virM m hh q else if (kind == 2) = true then itfM m hh q else spM m (d : Int) r q
/-- What an invocation answers, of a resolved method. -/
def callT (m : List EntM) (d : Nat) (kind : Int) (r : RefM) (t : TyM) (f : Int) (q : Int × Int) : (Int × Int) × Int :=
  if (statF f != (kind == 4)) = true then ((0, 0), 23) else if ((kind == 2) && (bits .and .i64 f 2 != 0)) = true then ((0, 0), 23)
  else if statF f = true then (q, 0) else if belowM m t (refT r.cls) = true then callS m d kind r (holderM m t).1 q else ((0, 0), 23)
def callE (m : List EntM) (d kind : Int) (r : RefM) (t : TyM) : (Int × Int) × Int :=
  if recvE m d kind t ≠ 0 then ((0, 0), recvE m d kind t) else if fitsE kind r ≠ 0 then ((0, 0), fitsE kind r)
  else if (methodR m d.toNat r).2 ≠ 0 then ((0, 0), (methodR m d.toNat r).2)
  else callT m d.toNat kind r t (flagsAt m (methodR m d.toNat r).1) (methodR m d.toNat r).1
theorem recv_ok {m : List EntM} {d kind : Int} {t : TyM} (h : recvE m d kind t = 0) : ∃ k : Nat, d = k ∧ k < m.length ∧ 1 ≤ kind ∧ kind ≤ 4 ∧ (kind ≠ 4 → (holderM m t).2 = 0 ∧ isIfaceM m (holderM m t).1 = false) := by
  unfold recvE at h
  cases her : entAt m d with
  | none => rw [her] at h; cases h
  | some e =>
    rw [her] at h
    obtain ⟨k, rfl, hk, _⟩ := entAt_some her
    simp only at h
    split at h
    · cases h
    · next hb =>
      simp only [Bool.or_eq_true, decide_eq_true_eq, not_or] at hb
      refine ⟨k, rfl, hk, by omega, by omega, fun hk4 => ?_⟩
      rw [if_neg (by simpa using hk4)] at h
      split at h
      · next h0 =>
        split at h
        · cases h
        · next hi => exact ⟨h0, by simpa using hi⟩
      · next h0 => exact absurd h h0
theorem meth_there {m : List EntM} (hw : WFm m) (ho : OrdM m) {i : Nat} (hi : i < m.length) {r : RefM} (h : (methodR m i r).2 = 0) : ∃ y, methAt m (methodR m i r).1 = some y ∧ flagsAt m (methodR m i r).1 = y.flags ∧ y.name = r.name ∧ y.desc = r.desc := by
  obtain ⟨h1, h2, h3, _⟩ := method_ok h
  obtain ⟨e1, e2, _, _⟩ := class_ok h1
  obtain ⟨⟨a, b, ha, hb, e, hme, _⟩, _⟩ := has_found hw ho (holN_lt (by omega) e1 e2) h3
  rw [h2, e]
  exact ⟨_, methAt_at ha hb, flagsAt_at ha hb, (mEq_ok hme).1, (mEq_ok hme).2⟩

theorem CCall {B bw : Nat} {w0 w : World} {m : List EntM} (h : Built B bw w0 w m) (d kind : Int) (r : RefM) (t : TyM) (h1 : r.cls.size ≤ maxLen) (h2 : r.name.size ≤ maxLen) (h3 : r.desc.size ≤ maxLen) (hs : t.name.size ≤ maxLen) (he : Lf.Env w) :
    Calls Tryz.prog 13 #[.pointer (some ⟨bw, 0, none⟩), .int .i64 d, .int .i64 kind, .agg #[.bool r.iface, .string r.cls, .string r.name, .string r.desc], .agg #[.int .i64 t.dims, .string t.name]] w fun e w' => e = .returned (.tuple #[.agg #[.int .i64 (callE m d kind r t).1.1, .int .i64 (callE m d kind r t).1.2], .int .i64 (callE m d kind r t).2]) ∧ Below w.heap.size w w' := by
  obtain ⟨wq, hwq⟩ : ∃ wq, (w.alloc (.cells #[.bool r.iface, .string r.cls, .string r.name, .string r.desc] 30)) = wq := ⟨_, rfl⟩
  have hbq : Below w.heap.size w wq := by rw [← hwq]; exact (Below.refl _ _).alloc (Nat.le_refl _) _
  have hr0 : RefAt wq w.heap.size r := by rw [← hwq]; exact RefAt.start w r
  obtain ⟨wp, hwp⟩ : ∃ wp, (wq.alloc (.cells #[.int .i64 t.dims, .string t.name] 33)) = wp := ⟨_, rfl⟩
  have hbp : Below wq.heap.size wq wp := by rw [← hwp]; exact (Below.refl _ _).alloc (Nat.le_refl _) _
  have p0 : wp.cell? ⟨wq.heap.size, 0, none⟩ = some (.int .i64 t.dims) := by rw [← hwp]; exact World.cell?_alloc_new ..
  have p1 : wp.cell? ⟨wq.heap.size, 1, none⟩ = some (.string t.name) := by rw [← hwp]; exact World.cell?_alloc_new ..
  have HS := Lib.hid (IdAt.start wp)
  obtain ⟨wa, hwa⟩ : ∃ wa, (wp.alloc (.cells #[.int .i64 0, .int .i64 0] 24)) = wa := ⟨_, rfl⟩
  rw [hwa] at HS
  have q0 := below_cell' HS.out.bel p0
  have q1 := below_cell' HS.out.bel p1
  have HQ := Lib.hid (And.intro q0 q1)
  have HRF := Lib.hid ((hr0.next hbp).next HS.out.bel)
  have HBP := Lib.hid (hbq.trans (hbp.mono hbq.size))
  have hba := HBP.out.trans (HS.out.bel.mono HBP.out.size)
  have HK := Lib.hid (CRecv (h.next hba) d kind t hs (he.below hba))
  have HH := Lib.hid (fun wr (hr : IdAt wp wr) => h.next (HBP.out.trans (hr.bel.mono HBP.out.size)))
  have HE := Lib.hid (fun wr (hr : IdAt wp wr) => he.below (HBP.out.trans (hr.bel.mono HBP.out.size)))
  have HSZ := Lib.hid (And.intro h1 (And.intro h2 (And.intro h3 hs)))
  have HWF := Lib.hid h.wf
  have HO := Lib.hid h.ord
  have HFIN : Hid (∀ w', IdAt wp w' → (w'.cell? ⟨wp.heap.size, 0, none⟩ = some (.int .i64 0) ∧ w'.cell? ⟨wp.heap.size, 1, none⟩ = some (.int .i64 0) ∧ ∀ j, w'.frozen? ⟨wp.heap.size, j, none⟩ = false) ∧ ∀ v0 v1, (∀ j (hj : j < [v0, v1].length), ((w'.setCell ⟨wp.heap.size, 0, none⟩ v0).setCell ⟨wp.heap.size, 1, none⟩ v1).cell? ⟨wp.heap.size, j, none⟩ = some [v0, v1][j]) ∧ Below w.heap.size w ((w'.setCell ⟨wp.heap.size, 0, none⟩ v0).setCell ⟨wp.heap.size, 1, none⟩ v1)) := Lib.hid (fun w' h =>
    ⟨⟨h.s0, h.s1, h.t⟩, fun v0 v1 => ⟨h.two v0 v1, HBP.out.trans ((h.end v0 v1).mono HBP.out.size)⟩⟩)
  obtain ⟨R, hR⟩ : ∃ R, callE m d kind r t = R := ⟨_, rfl⟩
  have HR := Lib.hid hR
  rw [hR]
  unfold callE at HR
  have HRO := Lib.hid (fun h => recv_ok (m := m) (d := d) (kind := kind) (t := t) h)
  generalize recvE m d kind t = re at HK HR HRO
  clear h hbq hr0 hbp p0 p1 hba hR he h1 h2 h3 hs
  go_enter Tryz.func13, Tryz.ntmps13
  go_wp2_with fail
  try rw [hwq]
  try rw [hwp]
  try rw [hwa]
  clear hwq hwp hwa
  refine HK.out.mono ?_
  rintro _ w1 ⟨rfl, hb⟩
  have HS1 := Lib.hid (HS.out.next hb)
  have HRF1 := Lib.hid (HRF.out.next hb)
  have HQ1 := Lib.hid (And.intro (below_cell' hb HQ.out.1) (below_cell' hb HQ.out.2))
  clear hb HK HS HRF HQ q0 q1
  by_cases hre : re = 0
  case neg =>
    have hre' : (re != 0) = true := by simpa using hre
    have HR3 : Hid (R = ((0, 0), re)) := Lib.hid (by rw [← HR.out, if_pos hre])
    clear hre HR HRF1 HQ1 HRO
    obtain rfl := HR3.out
    obtain ⟨⟨s0, s1, st⟩, hfin⟩ := HFIN.out w1 HS1.out
    have t0 := st 0
    have t1 := st 1
    have HFI := Lib.hid hfin
    clear HFIN st hfin HH HE
    go_wp2
    refine bodyPost_ret (results_cells_tmp rfl _ _ (wp.heap.size) [.int .i64 0, .int .i64 0] _ rfl (HFI.out _ _).1 Tryz.underlying24 rfl id_info2) rfl ⟨rfl, (HFI.out _ _).2⟩
  subst hre
  obtain ⟨dn, rfl, hdn, hk1, hk4, hhol⟩ := HRO.out rfl
  have HDN := Lib.hid hdn
  have HHL := Lib.hid hhol
  have HKB := Lib.hid (And.intro hk1 hk4)
  have HR1 : Hid ((if fitsE kind r ≠ 0 then ((0, 0), fitsE kind r) else if (methodR m dn r).2 ≠ 0 then ((0, 0), (methodR m dn r).2)
    else callT m dn kind r t (flagsAt m (methodR m dn r).1) (methodR m dn r).1) = R) := Lib.hid (by
      have h := HR.out
      rw [if_neg (by simp)] at h
      exact h)
  have HF := Lib.hid (CFits kind r w1 HSZ.out.1 HSZ.out.2.1 HSZ.out.2.2.1 (HE.out w1 HS1.out))
  generalize fitsE kind r = fe at HF HR1
  have r0 := HRF1.out.r0
  have r1 := HRF1.out.r1
  have r2 := HRF1.out.r2
  have r3 := HRF1.out.r3
  clear HR HRO hdn hhol hk1 hk4
  go_wp2_with fail
  refine HF.out.mono ?_
  rintro _ w2 ⟨rfl, hb⟩
  have HS2 := Lib.hid (HS1.out.next hb)
  have HRF2 := Lib.hid (HRF1.out.next hb)
  have HQ2 := Lib.hid (And.intro (below_cell' hb HQ1.out.1) (below_cell' hb HQ1.out.2))
  clear hb HF HS1 HRF1 HQ1 r0 r1 r2 r3
  by_cases hfe : fe = 0
  case neg =>
    have hfe' : (fe != 0) = true := by simpa using hfe
    have HR3 : Hid (R = ((0, 0), fe)) := Lib.hid (by rw [← HR1.out, if_pos hfe])
    clear hfe HR1 HRF2 HQ2 HDN HHL HKB
    obtain rfl := HR3.out
    obtain ⟨⟨s0, s1, st⟩, hfin⟩ := HFIN.out w2 HS2.out
    have t0 := st 0
    have t1 := st 1
    have HFI := Lib.hid hfin
    clear HFIN st hfin HH HE
    go_wp2
    refine bodyPost_ret (results_cells_tmp rfl _ _ (wp.heap.size) [.int .i64 0, .int .i64 0] _ rfl (HFI.out _ _).1 Tryz.underlying24 rfl id_info2) rfl ⟨rfl, (HFI.out _ _).2⟩
  subst hfe
  have HR2 : Hid ((if (methodR m dn r).2 ≠ 0 then ((0, 0), (methodR m dn r).2) else callT m dn kind r t (flagsAt m (methodR m dn r).1) (methodR m dn r).1) = R) := Lib.hid (by
    have h := HR1.out
    rw [if_neg (by simp)] at h
    exact h)
  have HM := Lib.hid (RMethod (HH.out w2 HS2.out) HDN.out r HSZ.out.1 HSZ.out.2.1 HSZ.out.2.2.1 (HE.out w2 HS2.out))
  have HMT := Lib.hid (fun h => meth_there HWF.out HO.out HDN.out (r := r) h)
  have HMC := Lib.hid (fun h => class_ok (method_ok (m := m) (i := dn) (r := r) h).1)
  obtain ⟨⟨⟨q1, q2⟩, qe⟩, hQ⟩ : ∃ Q, methodR m dn r = Q := ⟨_, rfl⟩
  rw [hQ] at HM HR2 HMT HMC
  simp only at HM HR2 HMT HMC
  have r0 := HRF2.out.r0
  have r1 := HRF2.out.r1
  have r2 := HRF2.out.r2
  have r3 := HRF2.out.r3
  clear hQ HR1
  go_wp2_with fail
  refine HM.out.mono ?_
  rintro _ w3 ⟨rfl, hb⟩
  obtain ⟨wi, hwi⟩ : ∃ wi, (w3.alloc (.cells #[.int .i64 q1, .int .i64 q2] 24)) = wi := ⟨_, rfl⟩
  have hbi : Below w3.heap.size w3 wi := by rw [← hwi]; exact (Below.refl _ _).alloc (Nat.le_refl _) _
  have m0 : wi.cell? ⟨w3.heap.size, 0, none⟩ = some (.int .i64 q1) := by rw [← hwi]; exact World.cell?_alloc_new ..
  have m1 : wi.cell? ⟨w3.heap.size, 1, none⟩ = some (.int .i64 q2) := by rw [← hwi]; exact World.cell?_alloc_new ..
  have hb' := hb.trans (hbi.mono hb.size)
  have HS3 := Lib.hid (HS2.out.next hb')
  have HRF3 := Lib.hid (HRF2.out.next hb')
  have HQ3 := Lib.hid (And.intro (below_cell' hb' HQ2.out.1) (below_cell' hb' HQ2.out.2))
  have HI3 := Lib.hid (And.intro m0 m1)
  clear hb hbi hb' HM HS2 HRF2 HQ2 r0 r1 r2 r3
  by_cases hqe : qe = 0
  case neg =>
    have hqe' : (qe != 0) = true := by simpa using hqe
    have HR3 : Hid (R = ((0, 0), qe)) := Lib.hid (by rw [← HR2.out, if_pos hqe])
    clear hqe HR2 HRF3 HQ3 HDN HHL HKB HMT HMC HI3 m0 m1
    obtain rfl := HR3.out
    obtain ⟨⟨s0, s1, st⟩, hfin⟩ := HFIN.out wi HS3.out
    have t0 := st 0
    have t1 := st 1
    have HFI := Lib.hid hfin
    clear HFIN st hfin HH HE
    go_wp2
    try rw [hwi]
    refine bodyPost_ret (results_cells_tmp rfl _ _ (wp.heap.size) [.int .i64 0, .int .i64 0] _ rfl (HFI.out _ _).1 Tryz.underlying24 rfl id_info2) rfl ⟨rfl, (HFI.out _ _).2⟩
  subst hqe
  obtain ⟨y, hy, hfl, n1, n2⟩ := HMT.out rfl
  obtain ⟨e1, e2, n3, n4⟩ := HMC.out rfl
  clear n1 n2 n3 n4
  have HTC := Lib.hid (And.intro e1 e2)
  have HR4 : Hid (callT m dn kind r t y.flags (q1, q2) = R) := Lib.hid (by
    have h := HR2.out
    rw [if_neg (by simp), hfl] at h
    exact h)
  unfold callT at HR4
  have HMM := Lib.hid (OMethod_some (HH.out wi HS3.out) hy)
  clear hy hfl e1 e2 HMT HMC HR2
  go_wp2_with fail
  try rw [hwi]
  clear hwi
  refine HMM.out.mono ?_
  rintro _ w4 ⟨ya, yq, yc, rfl, hb⟩
  obtain ⟨wy, hwy⟩ : ∃ wy, (w4.alloc (.cells #[.string y.name, .string y.desc, .int .i64 y.flags, .int .i64 y.locals, .int .i64 y.stack, .slice ya yq yc] 39)) = wy := ⟨_, rfl⟩
  have hby : Below w4.heap.size w4 wy := by rw [← hwy]; exact (Below.refl _ _).alloc (Nat.le_refl _) _
  have y2 : wy.cell? ⟨w4.heap.size, 2, none⟩ = some (.int .i64 y.flags) := by rw [← hwy]; exact World.cell?_alloc_new ..
  have hb' := hb.trans (hby.mono hb.size)
  have HS4 := Lib.hid (HS3.out.next hb')
  have HRF4 := Lib.hid (HRF3.out.next hb')
  have HQ4 := Lib.hid (And.intro (below_cell' hb' HQ3.out.1) (below_cell' hb' HQ3.out.2))
  have m0 := below_cell' hb' HI3.out.1
  have m1 := below_cell' hb' HI3.out.2
  have HI4 := Lib.hid (And.intro m0 m1)
  have HSF : Hid (statF y.flags = (bits .and .i64 y.flags 8 != 0)) := Lib.hid rfl
  clear hb hby hb' HMM HS3 HRF3 HQ3 HI3
  cases hst : (bits .and .i64 y.flags 8 != 0) with
  | true =>
    rw [HSF.out, hst] at HR4
    cases hk4 : (kind == 4) with
    | false =>
      have HR3 : Hid (R = ((0, 0), 23)) := Lib.hid (by rw [← HR4.out, if_pos (by rw [hk4]; rfl)])
      clear HR4 HRF4 HQ4 HI4 HDN HHL HKB HTC m0 m1
      obtain rfl := HR3.out
      rw [← hwy] at HS4
      clear hwy y2
      obtain ⟨⟨s0, s1, st⟩, hfin⟩ := HFIN.out _ HS4.out
      have t0 := st 0
      have t1 := st 1
      have HFI := Lib.hid hfin
      clear HFIN st hfin HH HE
      go_wp2
      refine bodyPost_ret (results_cells_tmp rfl _ _ (wp.heap.size) [.int .i64 0, .int .i64 0] _ rfl (HFI.out _ _).1 Tryz.underlying24 rfl id_info2) rfl ⟨rfl, (HFI.out _ _).2⟩
    | true =>
      have hk2 : (kind == 2) = false := by
        have : kind = 4 := by simpa using hk4
        rw [this]; rfl
      have HRX : Hid (R = ((q1, q2), 0)) := Lib.hid (by rw [← HR4.out, if_neg (by rw [hk4]; decide), if_neg (by rw [hk2]; simp), if_pos rfl])
      obtain rfl := HRX.out
      rw [← hwy] at HS4 m0 m1
      clear hwy y2
      obtain ⟨⟨s0, s1, st⟩, hfin⟩ := HFIN.out _ HS4.out
      have t0 := st 0
      have t1 := st 1
      have HFI := Lib.hid hfin
      clear HFIN st hfin HH HE HR4 HRF4 HQ4 HI4 HDN HHL HKB HTC
      go_wp2
      refine bodyPost_ret (results_cells_tmp rfl _ _ (wp.heap.size) [.int .i64 q1, .int .i64 q2] _ rfl (HFI.out _ _).1 Tryz.underlying24 rfl id_info2) rfl ⟨rfl, (HFI.out _ _).2⟩
  | false =>
    rw [HSF.out, hst] at HR4
    cases hk4 : (kind == 4) with
    | true =>
      have HR3 : Hid (R = ((0, 0), 23)) := Lib.hid (by rw [← HR4.out, if_pos (by rw [hk4]; rfl)])
      clear HR4 HRF4 HQ4 HI4 HDN HHL HKB HTC m0 m1
      obtain rfl := HR3.out
      rw [← hwy] at HS4
      clear hwy y2
      obtain ⟨⟨s0, s1, st⟩, hfin⟩ := HFIN.out _ HS4.out
      have t0 := st 0
      have t1 := st 1
      have HFI := Lib.hid hfin
      clear HFIN st hfin HH HE
      go_wp2
      refine bodyPost_ret (results_cells_tmp rfl _ _ (wp.heap.size) [.int .i64 0, .int .i64 0] _ rfl (HFI.out _ _).1 Tryz.underlying24 rfl id_info2) rfl ⟨rfl, (HFI.out _ _).2⟩
    | false =>
      have HLD : Hid (loadedE m t = 0) := Lib.hid (by
        have := (HHL.out (by simpa using hk4)).1
        exact (holder_lt (by have := HDN.out; omega) this).1)
      have HHE : Hid ((holderM m t).2 = 0) := Lib.hid (HHL.out (by simpa using hk4)).1
      have HR5 : Hid ((if ((kind == 2) && (bits .and .i64 y.flags 2 != 0)) = true then ((0, 0), 23) else if belowM m t (refT r.cls) = true then callS m dn kind r (holderM m t).1 (q1, q2) else ((0, 0), 23)) = R) := Lib.hid (by
        have h := HR4.out
        rw [if_neg (by rw [hk4]; decide)] at h
        exact h)
      unfold callS at HR5
      clear HR4 HHL HKB
      cases hk2 : (kind == 2)
      all_goals
        cases hpr : (bits .and .i64 y.flags 2 != 0)
        all_goals
          rw [hk2, hpr] at HR5
          simp only [Bool.and_true, Bool.and_false, Bool.true_and, Bool.false_and, if_true, if_false, Bool.false_eq_true] at HR5
      case true.true =>
        have HR3 : Hid (R = ((0, 0), 23)) := Lib.hid HR5.out.symm
        clear HR5 HRF4 HQ4 HI4 HDN HTC m0 m1 HLD HHE
        obtain rfl := HR3.out
        rw [← hwy] at HS4
        clear hwy y2
        obtain ⟨⟨s0, s1, st⟩, hfin⟩ := HFIN.out _ HS4.out
        have t0 := st 0
        have t1 := st 1
        have HFI := Lib.hid hfin
        clear HFIN st hfin HH HE
        go_wp2
        refine bodyPost_ret (results_cells_tmp rfl _ _ (wp.heap.size) [.int .i64 0, .int .i64 0] _ rfl (HFI.out _ _).1 Tryz.underlying24 rfl id_info2) rfl ⟨rfl, (HFI.out _ _).2⟩
      case true.false =>
        have HPR := Lib.hid (by
          have := Pr.ParseRef r.cls.data.toList wy (by rw [← Pr.ba_size, Pr.ba_of]; exact HSZ.out.1) (HE.out wy HS4.out)
          rw [Pr.ba_of] at this
          exact this)
        have HPE : Hid ((Pr.refTyM r.cls.data.toList).dims = (refT r.cls).dims ∧ Pr.ba (Pr.refTyM r.cls.data.toList).name = (refT r.cls).name ∧ (Pr.refTyM r.cls.data.toList).err = refE r.cls) := Lib.hid ⟨rfl, rfl, rfl⟩
        rw [HPE.out.1, HPE.out.2.1, HPE.out.2.2, HTC.out.1] at HPR
        have HSB := Lib.hid (fun wr (hr : IdAt wp wr) => ASub (HH.out wr hr) t (refT r.cls) HSZ.out.2.2.2 (name_fits HTC.out.1) (HE.out wr hr) HLD.out HTC.out.2)
        have HR6 : Hid ((if belowM m t (refT r.cls) = true then (if (kind == 1) = true then virM m (holderM m t).1 (q1, q2) else itfM m (holderM m t).1 (q1, q2)) else ((0, 0), 23)) = R) := HR5
        generalize refT r.cls = T at HPR HSB HR6
        have r1 := HRF4.out.r1
        clear HPE HTC HR5 HLD
        go_wp2_with fail
        try rw [hwy]
        clear hwy
        refine HPR.out.mono ?_
        rintro _ w5 ⟨rfl, hb⟩
        obtain ⟨wt, hwt⟩ : ∃ wt, (w5.alloc (.cells #[.int .i64 T.dims, .string T.name] 33)) = wt := ⟨_, rfl⟩
        have hbt : Below w5.heap.size w5 wt := by rw [← hwt]; exact (Below.refl _ _).alloc (Nat.le_refl _) _
        have y0 : wt.cell? ⟨w5.heap.size, 0, none⟩ = some (.int .i64 T.dims) := by rw [← hwt]; exact World.cell?_alloc_new ..
        have y1 : wt.cell? ⟨w5.heap.size, 1, none⟩ = some (.string T.name) := by rw [← hwt]; exact World.cell?_alloc_new ..
        have hb' := hb.trans (hbt.mono hb.size)
        have HS5 := Lib.hid (HS4.out.next hb')
        have HRF5 := Lib.hid (HRF4.out.next hb')
        have a0 := below_cell' hb' HQ4.out.1
        have a1 := below_cell' hb' HQ4.out.2
        have HQ5 := Lib.hid (And.intro a0 a1)
        have HI5 := Lib.hid (And.intro (below_cell' hb' HI4.out.1) (below_cell' hb' HI4.out.2))
        have HSX := Lib.hid (HSB.out wt HS5.out)
        clear hb hbt hb' HPR HS4 HRF4 HQ4 HI4 HSB r1 m0 m1 y2
        go_wp2_with fail
        try rw [hwt]
        clear hwt
        refine HSX.out.mono ?_
        rintro _ w6 ⟨rfl, hb⟩
        have HS6 := Lib.hid (HS5.out.next hb)
        have HRF6 := Lib.hid (HRF5.out.next hb)
        have a0 := below_cell' hb HQ5.out.1
        have a1 := below_cell' hb HQ5.out.2
        have HI6 := Lib.hid (And.intro (below_cell' hb HI5.out.1) (below_cell' hb HI5.out.2))
        clear hb HSX HS5 HRF5 HQ5 HI5 y0 y1
        cases hbl : belowM m t T with
        | false =>
          have HR3 : Hid (R = ((0, 0), 23)) := Lib.hid (by
            have h := HR6.out
            rw [if_neg (by rw [hbl]; decide)] at h
            exact h.symm)
          clear HR6 HRF6 HI6 HDN HHE a0 a1 hbl
          obtain rfl := HR3.out
          obtain ⟨⟨s0, s1, st⟩, hfin⟩ := HFIN.out w6 HS6.out
          have t0 := st 0
          have t1 := st 1
          have HFI := Lib.hid hfin
          clear HFIN st hfin HH HE
          go_wp2
          refine bodyPost_ret (results_cells_tmp rfl _ _ (wp.heap.size) [.int .i64 0, .int .i64 0] _ rfl (HFI.out _ _).1 Tryz.underlying24 rfl id_info2) rfl ⟨rfl, (HFI.out _ _).2⟩
        | true =>
          have HR7 : Hid ((if (kind == 1) = true then virM m (holderM m t).1 (q1, q2) else itfM m (holderM m t).1 (q1, q2)) = R) := Lib.hid (by
            have h := HR6.out
            rw [if_pos hbl] at h
            exact h)
          have HHO := Lib.hid (Holder_all (HH.out w6 HS6.out) t HSZ.out.2.2.2 (HE.out w6 HS6.out))
          rw [HHE.out] at HHO
          obtain ⟨⟨hh, hhe⟩, hH⟩ : ∃ H, holderM m t = H := ⟨_, rfl⟩
          rw [hH] at HHO HR7
          simp only at HHO HR7
          clear hH hbl HR6
          go_wp2_with fail
          refine HHO.out.mono ?_
          rintro _ w7 ⟨rfl, hb⟩
          have HS7 := Lib.hid (HS6.out.next hb)
          have r0 := (HRF6.out.next hb).r0
          have r1 := (HRF6.out.next hb).r1
          have r2 := (HRF6.out.next hb).r2
          have r3 := (HRF6.out.next hb).r3
          have m0 := below_cell' hb HI6.out.1
          have m1 := below_cell' hb HI6.out.2
          have HR6 := HR7
          clear hb HHO HS6 HRF6 HI6 a0 a1 HHE
          cases hk1 : (kind == 1) with
          | true =>
            exfalso
            have e1 : kind = 1 := by simpa using hk1
            have e2 : kind = 2 := by simpa using hk2
            omega
          | false =>
            have HR7 : Hid (itfM m hh (q1, q2) = R) := Lib.hid (by rw [← HR6.out, if_neg (by rw [hk1]; decide)])
            have HC := Lib.hid (CInterface (HH.out w7 HS7.out) hh (q1, q2))
            rw [HR7.out] at HC
            clear HR7 HR6 HDN
            go_wp2_with fail
            refine HC.out.mono ?_
            rintro _ w8 ⟨rfl, hb⟩
            have HS8 := Lib.hid (HS7.out.next hb)
            obtain ⟨⟨s0, s1, st⟩, hfin⟩ := HFIN.out w8 HS8.out
            have t0 := st 0
            have t1 := st 1
            have HFI := Lib.hid hfin
            clear hb HS7 HC hfin st
            go_wp2
            refine bodyPost_ret (results_cells_tmp rfl _ _ (wp.heap.size) [.int .i64 R.1.1, .int .i64 R.1.2] _ rfl (HFI.out _ _).1 Tryz.underlying24 rfl id_info2) rfl ⟨rfl, (HFI.out _ _).2⟩
      all_goals
        have HPR := Lib.hid (by
          have := Pr.ParseRef r.cls.data.toList wy (by rw [← Pr.ba_size, Pr.ba_of]; exact HSZ.out.1) (HE.out wy HS4.out)
          rw [Pr.ba_of] at this
          exact this)
        have HPE : Hid ((Pr.refTyM r.cls.data.toList).dims = (refT r.cls).dims ∧ Pr.ba (Pr.refTyM r.cls.data.toList).name = (refT r.cls).name ∧ (Pr.refTyM r.cls.data.toList).err = refE r.cls) := Lib.hid ⟨rfl, rfl, rfl⟩
        rw [HPE.out.1, HPE.out.2.1, HPE.out.2.2, HTC.out.1] at HPR
        have HSB := Lib.hid (fun wr (hr : IdAt wp wr) => ASub (HH.out wr hr) t (refT r.cls) HSZ.out.2.2.2 (name_fits HTC.out.1) (HE.out wr hr) HLD.out HTC.out.2)
        have HR6 : Hid ((if belowM m t (refT r.cls) = true then (if (kind == 1) = true then virM m (holderM m t).1 (q1, q2) else spM m (dn : Int) r (q1, q2)) else ((0, 0), 23)) = R) := HR5
        generalize refT r.cls = T at HPR HSB HR6
        have r1 := HRF4.out.r1
        clear HPE HTC HR5 HLD
        go_wp2_with fail
        try rw [hwy]
        clear hwy
        refine HPR.out.mono ?_
        rintro _ w5 ⟨rfl, hb⟩
        obtain ⟨wt, hwt⟩ : ∃ wt, (w5.alloc (.cells #[.int .i64 T.dims, .string T.name] 33)) = wt := ⟨_, rfl⟩
        have hbt : Below w5.heap.size w5 wt := by rw [← hwt]; exact (Below.refl _ _).alloc (Nat.le_refl _) _
        have y0 : wt.cell? ⟨w5.heap.size, 0, none⟩ = some (.int .i64 T.dims) := by rw [← hwt]; exact World.cell?_alloc_new ..
        have y1 : wt.cell? ⟨w5.heap.size, 1, none⟩ = some (.string T.name) := by rw [← hwt]; exact World.cell?_alloc_new ..
        have hb' := hb.trans (hbt.mono hb.size)
        have HS5 := Lib.hid (HS4.out.next hb')
        have HRF5 := Lib.hid (HRF4.out.next hb')
        have a0 := below_cell' hb' HQ4.out.1
        have a1 := below_cell' hb' HQ4.out.2
        have HQ5 := Lib.hid (And.intro a0 a1)
        have HI5 := Lib.hid (And.intro (below_cell' hb' HI4.out.1) (below_cell' hb' HI4.out.2))
        have HSX := Lib.hid (HSB.out wt HS5.out)
        clear hb hbt hb' HPR HS4 HRF4 HQ4 HI4 HSB r1 m0 m1 y2
        go_wp2_with fail
        try rw [hwt]
        clear hwt
        refine HSX.out.mono ?_
        rintro _ w6 ⟨rfl, hb⟩
        have HS6 := Lib.hid (HS5.out.next hb)
        have HRF6 := Lib.hid (HRF5.out.next hb)
        have a0 := below_cell' hb HQ5.out.1
        have a1 := below_cell' hb HQ5.out.2
        have HI6 := Lib.hid (And.intro (below_cell' hb HI5.out.1) (below_cell' hb HI5.out.2))
        clear hb HSX HS5 HRF5 HQ5 HI5 y0 y1
        cases hbl : belowM m t T with
        | false =>
          have HR3 : Hid (R = ((0, 0), 23)) := Lib.hid (by
            have h := HR6.out
            rw [if_neg (by rw [hbl]; decide)] at h
            exact h.symm)
          clear HR6 HRF6 HI6 HDN HHE a0 a1 hbl
          obtain rfl := HR3.out
          obtain ⟨⟨s0, s1, st⟩, hfin⟩ := HFIN.out w6 HS6.out
          have t0 := st 0
          have t1 := st 1
          have HFI := Lib.hid hfin
          clear HFIN st hfin HH HE
          go_wp2
          refine bodyPost_ret (results_cells_tmp rfl _ _ (wp.heap.size) [.int .i64 0, .int .i64 0] _ rfl (HFI.out _ _).1 Tryz.underlying24 rfl id_info2) rfl ⟨rfl, (HFI.out _ _).2⟩
        | true =>
          have HR7 : Hid ((if (kind == 1) = true then virM m (holderM m t).1 (q1, q2) else spM m (dn : Int) r (q1, q2)) = R) := Lib.hid (by
            have h := HR6.out
            rw [if_pos hbl] at h
            exact h)
          have HHO := Lib.hid (Holder_all (HH.out w6 HS6.out) t HSZ.out.2.2.2 (HE.out w6 HS6.out))
          rw [HHE.out] at HHO
          obtain ⟨⟨hh, hhe⟩, hH⟩ : ∃ H, holderM m t = H := ⟨_, rfl⟩
          rw [hH] at HHO HR7
          simp only at HHO HR7
          clear hH hbl HR6
          go_wp2_with fail
          refine HHO.out.mono ?_
          rintro _ w7 ⟨rfl, hb⟩
          have HS7 := Lib.hid (HS6.out.next hb)
          have r0 := (HRF6.out.next hb).r0
          have r1 := (HRF6.out.next hb).r1
          have r2 := (HRF6.out.next hb).r2
          have r3 := (HRF6.out.next hb).r3
          have m0 := below_cell' hb HI6.out.1
          have m1 := below_cell' hb HI6.out.2
          have HR6 := HR7
          clear hb HHO HS6 HRF6 HI6 a0 a1 HHE
          cases hk1 : (kind == 1) with
          | true =>
            have HR7 : Hid (virM m hh (q1, q2) = R) := Lib.hid (by rw [← HR6.out, if_pos hk1])
            have HC := Lib.hid (CVirtual (HH.out w7 HS7.out) hh (q1, q2))
            rw [HR7.out] at HC
            clear HR7 HR6 HDN
            go_wp2_with fail
            refine HC.out.mono ?_
            rintro _ w8 ⟨rfl, hb⟩
            have HS8 := Lib.hid (HS7.out.next hb)
            obtain ⟨⟨s0, s1, st⟩, hfin⟩ := HFIN.out w8 HS8.out
            have t0 := st 0
            have t1 := st 1
            have HFI := Lib.hid hfin
            clear hb HS7 HC hfin st
            go_wp2
            refine bodyPost_ret (results_cells_tmp rfl _ _ (wp.heap.size) [.int .i64 R.1.1, .int .i64 R.1.2] _ rfl (HFI.out _ _).1 Tryz.underlying24 rfl id_info2) rfl ⟨rfl, (HFI.out _ _).2⟩
          | false =>
            have HR7 : Hid (spM m (dn : Int) r (q1, q2) = R) := Lib.hid (by rw [← HR6.out, if_neg (by rw [hk1]; decide)])
            have HC := Lib.hid (CSpecial (HH.out w7 HS7.out) (dn : Int) r (q1, q2) HSZ.out.1 HSZ.out.2.1 HSZ.out.2.2.1 (HE.out w7 HS7.out))
            rw [HR7.out] at HC
            clear HR7 HR6 HDN
            go_wp2_with fail
            refine HC.out.mono ?_
            rintro _ w8 ⟨rfl, hb⟩
            have HS8 := Lib.hid (HS7.out.next hb)
            obtain ⟨⟨s0, s1, st⟩, hfin⟩ := HFIN.out w8 HS8.out
            have t0 := st 0
            have t1 := st 1
            have HFI := Lib.hid hfin
            clear hb HS7 HC hfin st
            go_wp2
            refine bodyPost_ret (results_cells_tmp rfl _ _ (wp.heap.size) [.int .i64 R.1.1, .int .i64 R.1.2] _ rfl (HFI.out _ _).1 Tryz.underlying24 rfl id_info2) rfl ⟨rfl, (HFI.out _ _).2⟩
end Go.Proofs.YtiiebakblkpkeaaGreatDoor.Hi
