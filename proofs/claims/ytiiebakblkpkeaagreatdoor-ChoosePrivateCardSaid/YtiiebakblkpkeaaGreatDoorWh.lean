/- ChoosePrivate: the walk. -/
import Derived.Test.YtiiebakblkpkeaaGreatDoorWg
set_option maxRecDepth 100000
set_option maxHeartbeats 8000000
set_option linter.unusedVariables false
set_option linter.unusedSimpArgs false
namespace Go.Proofs.YtiiebakblkpkeaaGreatDoor.Hi
open Go.RowKit Go.Shelf Go.Sort Bs

theorem ChoosePrivate (a : Option Addr) (cp : Nat) (xs : List ClsM) (r : Int) (p : Int × Int) (w : World) (hx : ClsSl (fun b => b < w.heap.size) w (.slice a xs.length cp) xs) (he : Lf.Env w) :
    Calls Tryz.prog 4 #[.slice a xs.length cp, .int .i64 r, .agg #[.int .i64 p.1, .int .i64 p.2]] w fun e w' => e = .returned (.bool true) ∧ Below w.heap.size w w' := by
  obtain ⟨wa, hwa⟩ : ∃ wa, (w.alloc (.cells #[.int .i64 p.1, .int .i64 p.2] 24)) = wa := ⟨_, rfl⟩
  have hba : Below w.heap.size w wa := by rw [← hwa]; exact (Below.refl _ _).alloc (Nat.le_refl _) _
  have p0 : wa.cell? ⟨w.heap.size, 0, none⟩ = some (.int .i64 p.1) := by rw [← hwa]; exact World.cell?_alloc_new ..
  have p1 : wa.cell? ⟨w.heap.size, 1, none⟩ = some (.int .i64 p.2) := by rw [← hwa]; exact World.cell?_alloc_new ..
  have HBA := Lib.hid hba
  have HP := Lib.hid (And.intro p0 p1)
  have HX := Lib.hid (hx.nextO hba)
  have HE := Lib.hid (he.below hba)
  have HAW := Lib.hid (awake12 wa)
  clear hx he hba p0 p1
  go_enter Tryz.func4, Tryz.ntmps4
  go_wp2_with fail
  try rw [hwa]
  clear hwa
  refine HAW.out.mono ?_
  rintro e w1 ⟨rfl, hb1⟩
  have HBU := Lib.hid (built12 a cp xs w1 (HX.out.nextO hb1) (HE.out.below hb1))
  have HB1 := Lib.hid (HBA.out.trans (hb1.mono HBA.out.size))
  have HP1 := Lib.hid (And.intro (below_cell' hb1 HP.out.1) (below_cell' hb1 HP.out.2))
  clear hb1 HX HE HAW HBA HP
  go_wp2_with fail
  refine HBU.out.mono ?_
  rintro e w2 ⟨rfl, h2⟩
  have H2 := Lib.hid h2
  have HB2 := Lib.hid (HB1.out.trans (h2.below.mono HB1.out.size))
  have p0 := below_cell' h2.below HP1.out.1
  have p1 := below_cell' h2.below HP1.out.2
  have HFL := Lib.hid (flA_defs xs)
  clear h2 HBU HB1 HP1
  generalize w1.heap.size = B at H2
  generalize defs xs = m at H2 HFL
  have HWF := Lib.hid H2.out.wf
  have HO := Lib.hid H2.out.ord
  have HM := Lib.hid (MethodAny H2.out p)
  have HP2 := Lib.hid (And.intro p0 p1)
  go_wp2_with fail
  refine HM.out.mono ?_
  rintro e w3 ⟨nm, ds, f, l, s, ad, q, c, er, rfl, g, k, hb⟩
  obtain ⟨wx, hwx⟩ : ∃ wx, (w3.alloc (.cells #[.string nm, .string ds, .int .i64 f, .int .i64 l, .int .i64 s, .slice ad q c] 39)) = wx := ⟨_, rfl⟩
  have hbx : Below w3.heap.size w3 wx := by rw [← hwx]; exact (Below.refl _ _).alloc (Nat.le_refl _) _
  have x0 : wx.cell? ⟨w3.heap.size, 0, none⟩ = some (.string nm) := by rw [← hwx]; exact World.cell?_alloc_new ..
  have x1 : wx.cell? ⟨w3.heap.size, 1, none⟩ = some (.string ds) := by rw [← hwx]; exact World.cell?_alloc_new ..
  have x2 : wx.cell? ⟨w3.heap.size, 2, none⟩ = some (.int .i64 f) := by rw [← hwx]; exact World.cell?_alloc_new ..
  have hb3 := hb.trans (hbx.mono hb.size)
  have HB3 := Lib.hid (HB2.out.trans (hb3.mono HB2.out.size))
  have H3 := Lib.hid (H2.out.next hb3)
  have G := Lib.hid g
  have K := Lib.hid k
  have HX3 := Lib.hid (And.intro x0 (And.intro x1 x2))
  have p0 := below_cell' hb3 HP2.out.1
  have p1 := below_cell' hb3 HP2.out.2
  have HP3 := Lib.hid (And.intro p0 p1)
  clear hb hbx hb3 g k HM HP2 HB2 H2
  have HCH := Lib.hid (Chain H3.out.hw H3.out.live r)
  go_wp2_with fail
  try rw [hwx]
  clear hwx
  refine HCH.out.mono ?_
  rintro e w4 ⟨ca, cc, rfl, hcs, hb⟩
  have HB4 := Lib.hid (HB3.out.trans (hb.mono HB3.out.size))
  have H4 := Lib.hid (H3.out.next hb)
  have HCS : Hid (IntSl (fun b => b < w4.heap.size) w4 (.slice ca (chainM m r).1.length cc) (chainM m r).1) := Lib.hid (hcs.mono fun _ h => h.2)
  have x0 := below_cell' hb HX3.out.1
  have x1 := below_cell' hb HX3.out.2.1
  have x2 := below_cell' hb HX3.out.2.2
  have p0 := below_cell' hb HP3.out.1
  have p1 := below_cell' hb HP3.out.2
  have HX4 := Lib.hid (And.intro x0 (And.intro x1 x2))
  have HP4 := Lib.hid (And.intro p0 p1)
  clear hb hcs HCH HX3 HP3 HB3 H3
  by_cases z : er = 0
  case neg =>
    obtain ⟨hn, rfl⟩ := K.out z
    clear z hn K G HCS x0 x1 x2 HX4 HFL HWF HO H4 p0 p1 HP4
    go_wp2
    go_ret
    exact ⟨rfl, HB4.out⟩
  subst z
  obtain ⟨x, hxm, rfl, rfl, rfl⟩ := G.out rfl
  have HXM := Lib.hid hxm
  clear G K hxm
  cases her : entAt m r with
  | none =>
    have HCM : Hid (chainM m r = ([], 3)) := Lib.hid (by unfold chainM; rw [her])
    rw [HCM.out]
    clear HCM her HCS x0 x1 x2 HX4 HFL HWF HO H4 p0 p1 HP4 HXM
    go_wp2
    go_ret
    exact ⟨rfl, HB4.out⟩
  | some ee =>
    obtain ⟨rr, rfl, hrm, _⟩ := entAt_some her
    have HCM : Hid (chainM m (rr : Int) = (ch m rr, 0)) := Lib.hid (by unfold ch chainM; rw [her])
    rw [HCM.out] at HCS ⊢
    simp only at HCS
    have HKM := Lib.hid hrm
    have hll : (ch m rr).length ≤ 300 := ch_len_le HWF.out hrm
    clear HCM her
    have HI := Lib.hid (H4.out.isIface (rr : Int))
    go_wp2_with fail
    refine HI.out.mono ?_
    rintro _ w5 ⟨rfl, hb⟩
    have HB5 := Lib.hid (HB4.out.trans (hb.mono HB4.out.size))
    have H5 := Lib.hid (H4.out.next hb)
    have HCS5 := Lib.hid (HCS.out.next hb)
    have x2 := below_cell' hb HX4.out.2.2
    have p0 := below_cell' hb HP4.out.1
    have p1 := below_cell' hb HP4.out.2
    have HP5 := Lib.hid (And.intro p0 p1)
    clear hb HI HX4 HP4 HCS HB4 H4 x0 x1
    cases hi : isIfaceM m (rr : Int) with
    | true =>
      clear HCS5 HFL HWF HO H5 HP5 HXM HKM x2 p0 p1
      go_wp2
      go_ret
      exact ⟨rfl, HB5.out⟩
    | false =>
      by_cases h2 : bits .and .i64 x.flags 2 = 0
      · have h2' : (bits .and .i64 x.flags 2 == 0) = true := by simpa using h2
        clear HCS5 HFL HWF HO H5 HP5 HXM HKM p0 p1 h2
        go_wp2
        go_ret
        exact ⟨rfl, HB5.out⟩
      have h2' : (bits .and .i64 x.flags 2 == 0) = false := by simpa using h2
      by_cases h8 : bits .and .i64 x.flags 8 = 0
      case neg =>
        have h8' : (bits .and .i64 x.flags 8 != 0) = true := by simpa using h8
        clear HCS5 HFL HWF HO H5 HP5 HXM HKM p0 p1 h2 h8
        go_wp2
        go_ret
        exact ⟨rfl, HB5.out⟩
      have h8' : (bits .and .i64 x.flags 8 != 0) = false := by simpa using h8
      have HPV := Lib.hid (priv_vir HWF.out HO.out HFL.out HXM.out HKM.out hi h2 h8)
      have HV := Lib.hid (CVirtual H5.out (rr : Int) p)
      have HIT := Lib.hid (fun wr (hr : Below w5.heap.size w5 wr) => CInterface (H5.out.next hr) (rr : Int) p)
      rw [(virM_some HKM.out HXM.out).1] at HV
      rw [(virM_some HKM.out HXM.out).2, priv_itf HWF.out HO.out hi h2] at HIT
      obtain ⟨⟨⟨u1, u2⟩, ur⟩, hV⟩ : ∃ R, virE m x p rr = R := ⟨_, rfl⟩
      rw [hV] at HPV HV
      simp only at HPV HV HIT
      clear hV h2 h8 hi HFL HWF HO HXM HKM
      generalize ch m rr = L at *
      go_wp2_with fail
      refine HV.out.mono ?_
      rintro _ w6 ⟨rfl, hb⟩
      obtain ⟨wm, hwm⟩ : ∃ wm, (w6.alloc (.cells #[.int .i64 u1, .int .i64 u2] 24)) = wm := ⟨_, rfl⟩
      have hbm : Below w6.heap.size w6 wm := by rw [← hwm]; exact (Below.refl _ _).alloc (Nat.le_refl _) _
      have m0 : wm.cell? ⟨w6.heap.size, 0, none⟩ = some (.int .i64 u1) := by rw [← hwm]; exact World.cell?_alloc_new ..
      have m1 : wm.cell? ⟨w6.heap.size, 1, none⟩ = some (.int .i64 u2) := by rw [← hwm]; exact World.cell?_alloc_new ..
      have hb' := hb.trans (hbm.mono hb.size)
      have HB6 := Lib.hid (HB5.out.trans (hb'.mono HB5.out.size))
      have HCS6 := Lib.hid (HCS5.out.next hb')
      have p0 := below_cell' hb' HP5.out.1
      have p1 := below_cell' hb' HP5.out.2
      have HP6 := Lib.hid (And.intro p0 p1)
      have HM6 := Lib.hid (And.intro m0 m1)
      have HIC := Lib.hid (HIT.out wm hb')
      have H6 := Lib.hid (H5.out.next hb')
      clear hb hbm hb' HV HIT HP5 HCS5 HB5 H5 x2
      go_wp2_with fail
      try rw [hwm]
      clear hwm
      refine HIC.out.mono ?_
      rintro _ w7 ⟨rfl, hb⟩
      obtain ⟨wn, hwn⟩ : ∃ wn, (w7.alloc (.cells #[.int .i64 0, .int .i64 0] 24)) = wn := ⟨_, rfl⟩
      have hbn : Below w7.heap.size w7 wn := by rw [← hwn]; exact (Below.refl _ _).alloc (Nat.le_refl _) _
      have hb' := hb.trans (hbn.mono hb.size)
      have HB7 := Lib.hid (HB6.out.trans (hb'.mono HB6.out.size))
      have HCS7 := Lib.hid (HCS6.out.next hb')
      have HP7 := Lib.hid (And.intro (below_cell' hb' HP6.out.1) (below_cell' hb' HP6.out.2))
      have HM7 := Lib.hid (And.intro (below_cell' hb' HM6.out.1) (below_cell' hb' HM6.out.2))
      have H7 := Lib.hid (H6.out.next hb')
      have HWN := Lib.hid hwn
      clear hb hbn hb' HIC HP6 HM6 HCS6 HB6 H6 p0 p1 m0 m1 hwn
      go_wp2_with fail
      try rw [HWN.out]
      clear HWN
      go_loopg [16] L.length (fun gk u wr => ∃ k : Nat, Hid (k + gk = L.length) ∧ u = .int .i64 k ∧ Hid (∀ k' (h : k' < L.length), k' < k → L[k'] ≠ p.1) ∧ Hid (Below wn.heap.size wn wr))
      case atStart => exact ⟨0, Lib.hid (Nat.zero_add _), rfl, Lib.hid (fun k' h h0 => absurd h0 (Nat.not_lt_zero _)), Lib.hid (Below.refl _ _)⟩
      case round =>
        obtain ⟨k, hk, rfl, HNO, HBR⟩ := hrel
        by_cases hlt : k < L.length
        · have hlt' : (k : Int) < (L.length : Int) := by omega
          obtain ⟨cb, co, rfl, hce⟩ := IntSl.elem HCS7.out (by omega)
          have c0 := below_cell' HBR.out (hce k L[k] (List.getElem?_eq_getElem hlt))
          have p0 := below_cell' HBR.out HP7.out.1
          have p1 := below_cell' HBR.out HP7.out.2
          have m0 := below_cell' HBR.out HM7.out.1
          have m1 := below_cell' HBR.out HM7.out.2
          have HBW := Lib.hid (HB7.out.trans (HBR.out.mono HB7.out.size))
          clear hce
          by_cases e : L[k] = p.1
          · rcases HPV.out with ⟨hin, hv⟩ | ⟨hni, _⟩
            case inr => exact absurd (e ▸ List.getElem_mem hlt) hni
            obtain ⟨⟨rfl, rfl⟩, rfl⟩ : (p.1 = u1 ∧ p.2 = u2) ∧ 0 = ur := by
              simp only [Prod.ext_iff] at hv
              exact ⟨⟨hv.1.1.symm, hv.1.2.symm⟩, hv.2.symm⟩
            have HRI := Lib.hid (fun w => RID p.1 p.2 p.1 p.2 w)
            rw [beq_self_eq_true, beq_self_eq_true] at HRI
            rw [e] at c0
            clear hv hin HPV HNO e
            go_wp2_with fail
            go_quiet (fail)
            go_wp2_with fail
            refine (HRI.out _).mono ?_
            rintro _ w8 ⟨rfl, hb⟩
            have HB8 := Lib.hid (HBW.out.trans ((below_drewN (Below.refl _ _) _).trans hb |>.mono HBW.out.size))
            clear hb
            go_wp2
            go_ret
            exact ⟨rfl, HB8.out⟩
          · have he : (L[k] == p.1) = false := by simpa using e
            have HNO1 : Hid (∀ k' (h : k' < L.length), k' < k + 1 → L[k'] ≠ p.1) := Lib.hid (fun k' h hl => by
              by_cases ek : k' = k
              · subst ek; exact e
              · exact HNO.out k' h (by omega))
            obtain ⟨lv, hlv⟩ : ∃ v, L[k] = v := ⟨_, rfl⟩
            rw [hlv] at c0 he
            clear hlv e HNO m0 m1 p1
            go_wp2_with fail
            go_quiet (fail)
            go_wp2
            go_roundg (L.length - (k + 1))
            case measure => have := hk.out; omega
            case rel => exact ⟨k + 1, Lib.hid (by have := hk.out; omega), by go_num, HNO1, Lib.hid (below_drewN HBR.out _)⟩
        · have HNI : Hid (p.1 ∉ L) := Lib.hid (fun h => by
            obtain ⟨j, hj, e⟩ := List.getElem_of_mem h
            exact HNO.out j hj (by omega) e)
          have HBW := Lib.hid (HB7.out.trans (HBR.out.mono HB7.out.size))
          have m0 := below_cell' HBR.out HM7.out.1
          rcases HPV.out with ⟨hin, _⟩ | ⟨_, h⟩
          · exact absurd hin HNI.out
          clear HPV HNO HNI
          rcases h with h | h | ⟨h, hif⟩
          · rw [h]
            go_wp2
            go_ret
            exact ⟨rfl, HBW.out⟩
          · rw [h]
            go_wp2
            go_ret
            exact ⟨rfl, HBW.out⟩
          · rw [h]
            have HI := Lib.hid ((H7.out.next HBR.out).isIface u1)
            rw [hif] at HI
            clear h hif
            go_wp2_with fail
            refine HI.out.mono ?_
            rintro _ w8 ⟨rfl, hb⟩
            have HB8 := Lib.hid (HBW.out.trans (hb.mono HBW.out.size))
            clear hb
            go_wp2
            go_ret
            exact ⟨rfl, HB8.out⟩
end Go.Proofs.YtiiebakblkpkeaaGreatDoor.Hi
