/- Virtual tables: Select: the walk. -/
import Derived.Test.YtipinmbpdgjalaaGreatDoorJk
import Derived.Test.YtipinmbpdgjalaaGreatDoorFe
set_option maxRecDepth 100000
set_option maxHeartbeats 8000000
set_option linter.unusedVariables false
set_option linter.unusedSimpArgs false
namespace Go.Proofs.YtipinmbpdgjalaaGreatDoor.Hi
open Go.RowKit Go.Shelf Go.Sort Bs
attribute [local go_sem] Oper.semAt_some
attribute [local go_sem ↓] Go.wp_at_zero Go.wp_at_succ

/-- Select's answer. -/
def selM (m : List EntM) (d : Int) (p : Int × Int) : (Int × Int) × Int := match entAt m d with
  | none => ((0, 0), 3)
  | some _ => match methAt m p with
    | none => ((0, 0), 3)
    | some _ => if (bldM m d).2 = 0 then (if (slotR m p).2 = 0 ∧ extM m d p.1 = true then (((tabM m d.toNat)[(slotR m p).1.toNat]?.getD ((0, 0), (0, 0))).2, 0) else ((0, 0), 6)) else ((0, 0), (bldM m d).2)
theorem slotR_some {m : List EntM} (hw : WFm m) (ho : OrdM m) (hf : FlA m) {p : Int × Int} {x : MethM} (hx : methAt m p = some x) (h : (slotR m p).2 = 0) :
    ∃ (c i : Nat) (hc : c < m.length) (hi : i < (tabM m c).length), p.1 = c ∧ p ∈ ownV m c ∧ (slotR m p).1 = (i : Int) ∧ (tabM m c)[i].2 = p ∧ ((tabM m c)[i].1 = p ∨ (hitB m p (tabM m c)[i].1 = true ∧ pubB m p = true)) := by
  unfold slotR at h ⊢
  rw [hx] at h ⊢
  simp only at h ⊢
  by_cases hv : virB m p = true
  · rw [if_pos hv]
    obtain ⟨c, e, hc, hown⟩ := virB_own hx hv
    obtain ⟨i, hi, h1, h2, h3⟩ := slot_own hw ho hf hc hown
    refine ⟨c, i, hc, hi, e, hown, ?_, h2, h3⟩
    rw [e, Int.toNat_natCast, h1]
    rfl
  · rw [if_neg hv] at h
    cases h
theorem sel_in {m : List EntM} (hw : WFm m) (ho : OrdM m) (hf : FlA m) {p : Int × Int} {x : MethM} (hx : methAt m p = some x) (h : (slotR m p).2 = 0) {d : Nat} (hd : d < m.length) (he : extM m d p.1 = true) :
    ∃ (i : Nat) (hi : i < (tabM m d).length), (slotR m p).1 = (i : Int) ∧ Near m x p d (tabM m d)[i].2 := by
  obtain ⟨c, i, hc, hi, e, hown, h1, h2, h3⟩ := slotR_some hw ho hf hx h
  rw [e] at he
  obtain ⟨hir, _, hn⟩ := slot_below hw ho hf hc hown hx hi h2 h3 hd (iface_clo hw ho hd hc he ((mem_own hc).1 hown).2.1)
  exact ⟨i, hir, h1, hn⟩

theorem VSelect {B bw : Nat} {w0 w : World} {m : List EntM} (h : Built B bw w0 w m) (hml : MlA m) (hfl : FlA m) (d : Int) (p : Int × Int) :
    Calls Tryz.prog 22 #[.pointer (some ⟨bw, 0, none⟩), .int .i64 d, .agg #[.int .i64 p.1, .int .i64 p.2]] w fun e w' => e = .returned (.tuple #[.agg #[.int .i64 (selM m d p).1.1, .int .i64 (selM m d p).1.2], .int .i64 (selM m d p).2]) ∧ Below w.heap.size w w' := by
  obtain ⟨wp, hwp⟩ : ∃ wp, (w.alloc (.cells #[.int .i64 p.1, .int .i64 p.2] 38)) = wp := ⟨_, rfl⟩
  have hbp : Below w.heap.size w wp := by rw [← hwp]; exact (Below.refl _ _).alloc (Nat.le_refl _) _
  have HS := Lib.hid (IdAt.start wp)
  obtain ⟨wa, hwa⟩ : ∃ wa, (wp.alloc (.cells #[.int .i64 0, .int .i64 0] 38)) = wa := ⟨_, rfl⟩
  rw [hwa] at HS
  have p0 : wp.cell? ⟨w.heap.size, 0, none⟩ = some (.int .i64 p.1) := by rw [← hwp]; exact World.cell?_alloc_new ..
  have p1 : wp.cell? ⟨w.heap.size, 1, none⟩ = some (.int .i64 p.2) := by rw [← hwp]; exact World.cell?_alloc_new ..
  have q0 := below_cell' HS.out.bel p0
  have q1 := below_cell' HS.out.bel p1
  have hba := hbp.trans (HS.out.bel.mono hbp.size)
  have HH := Lib.hid (fun wr (hr : Below w.heap.size w wr) => h.next hr)
  have HA := Lib.hid (h.next hba)
  have HWF := Lib.hid h.wf
  have HO := Lib.hid h.ord
  have HBP := Lib.hid hbp
  have HQ := Lib.hid (And.intro q0 q1)
  have HR : Hid (selM m d p = match entAt m d with
    | none => ((0, 0), 3)
    | some _ => match methAt m p with
      | none => ((0, 0), 3)
      | some _ => if (bldM m d).2 = 0 then (if (slotR m p).2 = 0 ∧ extM m d p.1 = true then (((tabM m d.toNat)[(slotR m p).1.toNat]?.getD ((0, 0), (0, 0))).2, 0) else ((0, 0), 6)) else ((0, 0), (bldM m d).2)) := Lib.hid rfl
  obtain ⟨R, hR⟩ : ∃ R, selM m d p = R := ⟨_, rfl⟩
  rw [hR] at HR ⊢
  clear h hbp hba p0 p1 hR
  have HTWO : Hid (∀ w', IdAt wp w' → Below w.heap.size w w' ∧ (w'.cell? ⟨wp.heap.size, 0, none⟩ = some (.int .i64 0) ∧ w'.cell? ⟨wp.heap.size, 1, none⟩ = some (.int .i64 0) ∧ ∀ j, w'.frozen? ⟨wp.heap.size, j, none⟩ = false) ∧ ∀ v0 v1, (∀ j (hj : j < [v0, v1].length), ((w'.setCell ⟨wp.heap.size, 0, none⟩ v0).setCell ⟨wp.heap.size, 1, none⟩ v1).cell? ⟨wp.heap.size, j, none⟩ = some [v0, v1][j]) ∧ Below w.heap.size w ((w'.setCell ⟨wp.heap.size, 0, none⟩ v0).setCell ⟨wp.heap.size, 1, none⟩ v1)) := Lib.hid (fun w' h => by
    exact ⟨HBP.out.trans (h.bel.mono HBP.out.size), ⟨h.s0, h.s1, h.t⟩, fun v0 v1 => ⟨h.two v0 v1, HBP.out.trans ((h.end v0 v1).mono HBP.out.size)⟩⟩)
  cases hed : entAt m d with
  | none =>
    have HC := Lib.hid (Class_none HA.out.hw HA.out.live hed)
    rw [hed] at HR
    obtain rfl : R = ((0, 0), 3) := HR.out
    clear hed HR HA q0 q1 HQ
    go_enter Tryz.func22, Tryz.ntmps22
    go_wp2_with fail
    try rw [hwp]
    try rw [hwa]
    clear hwp hwa
    refine HC.out.mono ?_
    rintro _ w1 ⟨rfl, hb⟩
    have HS1 := Lib.hid (HS.out.next (hb.alloc hb.size (.cells #[.string ⟨#[]⟩, .string ⟨#[]⟩, .slice none 0 0, .int .i64 0, .int .i64 0, .slice none 0 0] 26)))
    clear hb HC
    obtain ⟨_, ⟨s0, s1, st⟩, hfin⟩ := HTWO.out _ HS1.out
    have t0 := st 0
    have t1 := st 1
    have HFIN := Lib.hid hfin
    clear hfin st HS
    go_wp2
    try rw [hwp]
    refine bodyPost_ret (results_cells_tmp rfl _ _ (wp.heap.size) [.int .i64 0, .int .i64 0] _ rfl (HFIN.out _ _).1 Tryz.underlying38 rfl id_info2) rfl ⟨rfl, (HFIN.out _ _).2⟩
  | some ee =>
    obtain ⟨d, rfl, hd, hde⟩ := entAt_some hed
    have HC := Lib.hid (Class2 HA.out hd)
    have HD := Lib.hid hd
    rw [hed] at HR
    clear hed HA hde hd
    go_enter Tryz.func22, Tryz.ntmps22
    go_wp2_with fail
    try rw [hwp]
    try rw [hwa]
    clear hwp hwa
    refine HC.out.mono ?_
    rintro _ w1 ⟨v0, v1, ia, ma, il, ic, ml, mc, cf, cl, rfl, hb⟩
    have hb' := hb.alloc hb.size (.cells #[.string v0, .string v1, .slice ia il ic, .int .i64 cf, .int .i64 cl, .slice ma ml mc] 26)
    obtain ⟨wx, hwx⟩ : ∃ wx, (w1.alloc (.cells #[.string v0, .string v1, .slice ia il ic, .int .i64 cf, .int .i64 cl, .slice ma ml mc] 26)) = wx := ⟨_, rfl⟩
    rw [hwx] at hb'
    have HS1 := Lib.hid (HS.out.next hb')
    have q0 := below_cell' hb' HQ.out.1
    have q1 := below_cell' hb' HQ.out.2
    have HQ1 := Lib.hid (And.intro q0 q1)
    have HBX := (HTWO.out wx HS1.out).1
    cases hx : methAt m p with
    | none =>
      rw [hx] at HR
      obtain rfl : R = ((0, 0), 3) := HR.out
      have HM := Lib.hid (OMethod_none (HH.out wx HBX) hx)
      clear hb hb' HBX HS HQ HC HR hx HQ1 HD
      go_wp2_with fail
      try rw [hwx]
      clear hwx
      refine HM.out.mono ?_
      rintro _ w2 ⟨rfl, hb⟩
      unfold zeroMeth
      have HS2 := Lib.hid (HS1.out.next (hb.alloc hb.size (.cells #[.string ⟨#[]⟩, .string ⟨#[]⟩, .int .i64 0, .int .i64 0, .int .i64 0, .slice none 0 0] 55)))
      clear hb HM q0 q1
      obtain ⟨_, ⟨s0, s1, st⟩, hfin⟩ := HTWO.out _ HS2.out
      have t0 := st 0
      have t1 := st 1
      have HFIN := Lib.hid hfin
      clear hfin st HS1
      go_wp2
      try rw [hwp]
      refine bodyPost_ret (results_cells_tmp rfl _ _ (wp.heap.size) [.int .i64 0, .int .i64 0] _ rfl (HFIN.out _ _).1 Tryz.underlying38 rfl id_info2) rfl ⟨rfl, (HFIN.out _ _).2⟩
    | some x =>
      rw [hx] at HR
      have HM := Lib.hid (OMethod_some (HH.out wx HBX) hx)
      have HXM := Lib.hid hx
      clear hb hb' HBX HS HQ HC hx
      go_wp2_with fail
      try rw [hwx]
      clear hwx
      refine HM.out.mono ?_
      rintro _ w2 ⟨ad, q, c, rfl, hb⟩
      have hb' := hb.alloc hb.size (.cells #[.string x.name, .string x.desc, .int .i64 x.flags, .int .i64 x.locals, .int .i64 x.stack, .slice ad q c] 55)
      obtain ⟨wy, hwy⟩ : ∃ wy, (w2.alloc (.cells #[.string x.name, .string x.desc, .int .i64 x.flags, .int .i64 x.locals, .int .i64 x.stack, .slice ad q c] 55)) = wy := ⟨_, rfl⟩
      rw [hwy] at hb'
      have HS2 := Lib.hid (HS1.out.next hb')
      have q0 := below_cell' hb' HQ1.out.1
      have q1 := below_cell' hb' HQ1.out.2
      have HQ2 := Lib.hid (And.intro q0 q1)
      have HB := Lib.hid (VBuild (HH.out wy (HTWO.out wy HS2.out).1) hml (d : Int))
      have HBE : Hid (bldM m (d : Int) = if isIfaceM m (d : Int) = true then ([], 23) else (tabM m d, 0)) := Lib.hid (by unfold bldM; rw [entAt_nat HD.out]; rfl)
      clear hb hb' HS1 HQ1 HM
      cases hif : isIfaceM m (d : Int) with
      | true =>
        have HBE2 : Hid (bldM m (d : Int) = ([], 23)) := Lib.hid (by rw [HBE.out, if_pos hif])
        rw [HBE2.out] at HB HR
        obtain rfl : R = ((0, 0), 23) := by rw [HR.out]; rfl
        clear HBE HBE2 hif HR HXM HQ2
        go_wp2_with fail
        try rw [hwy]
        clear hwy
        refine HB.out.mono ?_
        rintro _ w3 ⟨v, rfl, _, hb⟩
        have HS3 := Lib.hid (HS2.out.next hb)
        clear hb HB q0 q1
        obtain ⟨_, ⟨s0, s1, st⟩, hfin⟩ := HTWO.out w3 HS3.out
        have t0 := st 0
        have t1 := st 1
        have HFIN := Lib.hid hfin
        clear hfin st HS2
        go_wp2
        try rw [hwp]
        refine bodyPost_ret (results_cells_tmp rfl _ _ (wp.heap.size) [.int .i64 0, .int .i64 0] _ rfl (HFIN.out _ _).1 Tryz.underlying38 rfl id_info2) rfl ⟨rfl, (HFIN.out _ _).2⟩
      | false =>
        have HBE2 : Hid (bldM m (d : Int) = (tabM m d, 0)) := Lib.hid (by rw [HBE.out, if_neg (by rw [hif]; decide)])
        rw [HBE2.out] at HB HR
        have HRE : Hid (R = if (slotR m p).2 = 0 ∧ extM m d p.1 = true then (((tabM m d)[(slotR m p).1.toNat]?.getD ((0, 0), (0, 0))).2, 0) else ((0, 0), 6)) := Lib.hid (by rw [HR.out]; rfl)
        have HIN : Hid ((slotR m p).2 = 0 → extM m d p.1 = true → ∃ (i : Nat) (hi : i < (tabM m d).length), (slotR m p).1 = (i : Int)) := Lib.hid (fun h1 h2 => by
          obtain ⟨i, hi, h3, _⟩ := sel_in HWF.out HO.out hfl HXM.out h1 HD.out h2
          exact ⟨i, hi, h3⟩)
        have HTL := Lib.hid (tabM_len HWF.out hml HD.out)
        clear HBE HBE2 hif HR
        obtain ⟨T, hT⟩ : ∃ T, tabM m d = T := ⟨_, rfl⟩
        rw [hT] at HB HRE HIN HTL
        clear hT
        go_wp2_with fail
        try rw [hwy]
        clear hwy
        refine HB.out.mono ?_
        rintro _ w3 ⟨v, rfl, hrow, hb⟩
        obtain ⟨ra, rc, rfl⟩ := own_slice hrow
        have HS3 := Lib.hid (HS2.out.next hb)
        have q0 := below_cell' hb HQ2.out.1
        have q1 := below_cell' hb HQ2.out.2
        have HQ3 := Lib.hid (And.intro q0 q1)
        have HT3 : Hid (SlotSl (fun b => b < w3.heap.size) w3 (.slice ra T.length rc) T) := Lib.hid (Sl.mono (slotSl_row hrow (by have := HTL.out; omega)) (fun b hb => hb.2) fun _ _ h => h)
        have HSL := Lib.hid (VSlotOf (HH.out w3 (HTWO.out w3 HS3.out).1) hml p)
        clear hb hrow HB HS2 HQ2
        obtain ⟨⟨si, se⟩, hs⟩ : ∃ s, slotR m p = s := ⟨_, rfl⟩
        rw [hs] at HSL HRE HIN
        simp only at HSL HRE HIN
        clear hs
        go_wp2_with fail
        refine HSL.out.mono ?_
        rintro _ w4 ⟨rfl, hb⟩
        have HS4 := Lib.hid (HS3.out.next hb)
        have q0 := below_cell' hb HQ3.out.1
        have q1 := below_cell' hb HQ3.out.2
        have HT4 := Lib.hid (SlotSl.next HT3.out hb)
        have HEX := Lib.hid ((HH.out w4 (HTWO.out w4 HS4.out).1).extends (d : Int) p.1)
        clear hb HS3 HQ3 HT3 HSL
        by_cases hse : se = 0
        case neg =>
          obtain rfl : R = ((0, 0), 6) := by rw [HRE.out, if_neg (fun h => hse h.1)]
          clear HRE HIN HT4 HEX
          obtain ⟨_, ⟨s0, s1, st⟩, hfin⟩ := HTWO.out w4 HS4.out
          have t0 := st 0
          have t1 := st 1
          have HFIN := Lib.hid hfin
          clear hfin st 
          go_wp2
          try rw [hwp]
          refine bodyPost_ret (results_cells_tmp rfl _ _ (wp.heap.size) [.int .i64 0, .int .i64 0] _ rfl (HFIN.out _ _).1 Tryz.underlying38 rfl id_info2) rfl ⟨rfl, (HFIN.out _ _).2⟩
        case pos =>
          subst hse
          go_wp2_with fail
          refine HEX.out.mono ?_
          rintro _ w5 ⟨rfl, hb⟩
          have HS5 := Lib.hid (HS4.out.next hb)
          have HT5 := Lib.hid (SlotSl.next HT4.out hb)
          clear hb HS4 HT4 HEX q0 q1
          cases hext : extM m d p.1 with
          | false =>
            obtain rfl : R = ((0, 0), 6) := by rw [HRE.out, if_neg (fun h => by rw [hext] at h; cases h.2)]
            clear HRE HIN HT5 hext
            obtain ⟨_, ⟨s0, s1, st⟩, hfin⟩ := HTWO.out w5 HS5.out
            have t0 := st 0
            have t1 := st 1
            have HFIN := Lib.hid hfin
            clear hfin st 
            go_wp2
            try rw [hwp]
            refine bodyPost_ret (results_cells_tmp rfl _ _ (wp.heap.size) [.int .i64 0, .int .i64 0] _ rfl (HFIN.out _ _).1 Tryz.underlying38 rfl id_info2) rfl ⟨rfl, (HFIN.out _ _).2⟩
          | true =>
            obtain ⟨i, hi, rfl⟩ := HIN.out (by trivial) hext
            obtain rfl : R = (T[i].2, 0) := by rw [HRE.out, if_pos ⟨by trivial, hext⟩, Int.toNat_natCast, List.getElem?_eq_getElem hi]; rfl
            obtain ⟨b, o, rfl, _, g0, g1, g2, g3⟩ := SlotSl.elem HT5.out hi
            have hi' : (i : Int) < (T.length : Int) := by omega
            clear HRE HIN hext HT5
            obtain ⟨_, ⟨s0, s1, st⟩, hfin⟩ := HTWO.out w5 HS5.out
            have t0 := st 0
            have t1 := st 1
            have HFIN := Lib.hid hfin
            clear hfin st 
            go_wp2
            try rw [hwp]
            refine bodyPost_ret (results_cells_tmp rfl _ _ (wp.heap.size) [.int .i64 T[i].2.1, .int .i64 T[i].2.2] _ rfl (HFIN.out _ _).1 Tryz.underlying38 rfl id_info2) rfl ⟨rfl, (HFIN.out _ _).2⟩
end Go.Proofs.YtipinmbpdgjalaaGreatDoor.Hi
