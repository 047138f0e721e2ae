/- VtableOwn: the walk. -/
import Derived.Test.YtipinmbpdgjalaaGreatDoorJm
set_option maxRecDepth 100000
set_option maxHeartbeats 8000000
set_option linter.unusedVariables false
set_option linter.unusedSimpArgs false
namespace Go.Proofs.YtipinmbpdgjalaaGreatDoor.Hi
open Go.RowKit Go.Shelf Go.Sort Bs

section
variable {m : List EntM} (hw : WFm m) (ho : OrdM m) (hf : FlA m)
include hw ho hf
/-- What the law of a method's slot tells. -/
theorem own_law {p : Int × Int} {x : MethM} (hx : methAt m p = some x) (hv : virB m p = true) {c : Nat} (hc : c < m.length) (hpc : p.1 = c) :
    ∃ (i : Nat) (hi : i < (tabM m c).length), slotR m p = ((i : Int), 0) ∧ (tabM m c)[i].2 = p ∧ bldM m p.1 = (tabM m c, 0) ∧
      ∀ r (hr : r < m.length), extM m r p.1 = true → ∃ (hir : i < (tabM m r).length), (tabM m r)[i].1 = (tabM m c)[i].1 ∧ ovR m (tabM m r)[i].2 p = (true, 0) ∧ (∃ j : Nat, slotR m (tabM m r)[i].2 = ((j : Int), 0) ∧ j < (tabM m r).length) ∧ extM m r (tabM m r)[i].2.1 = true := by
  obtain ⟨c', e, hc', hown⟩ := virB_own hx hv
  obtain rfl : c' = c := by omega
  obtain ⟨i, hi, h1, h2, h3⟩ := slot_own hw ho hf hc hown
  have hif := ((mem_own hc).1 hown).2.1
  refine ⟨i, hi, ?_, h2, ?_, ?_⟩
  · unfold slotR
    rw [hx]
    simp only
    rw [if_pos hv, e, Int.toNat_natCast, h1]
    rfl
  · rw [e, bld_ok hc hif]
  intro r hr hext
  rw [e] at hext
  have hcr := iface_clo hw ho hr hc hext hif
  obtain ⟨hir, hroot, hn, k, hk, hnk, _⟩ := slot_below hw ho hf hc hown hx hi h2 h3 hr hcr
  obtain ⟨b, eb, _, hb, _⟩ := ch_mem hw hr _ (List.getElem_mem hk)
  rw [eb] at hnk
  obtain ⟨hnb, hh⟩ := hit_all hw ho hf hc hown hx (.inl rfl) hb hn hnk
  obtain ⟨y, x', hy, _, _, _, hov⟩ := hit_spec hh
  obtain ⟨j, hj, g1, g2, g3⟩ := slot_own hw ho hf hb hnb
  have hbr : (b : Int) ∈ ch m r := by rw [← eb]; exact List.getElem_mem hk
  obtain ⟨hjr, _⟩ := slot_below hw ho hf hb hnb hy hj g2 g3 hr hbr
  have hvn : virB m (tabM m r)[i].2 = true := (List.mem_filter.1 hnb).2
  refine ⟨hir, hroot, hov, ⟨j, ?_, hjr⟩, ?_⟩
  · unfold slotR
    rw [hy]
    simp only
    rw [if_pos hvn, hnk, Int.toNat_natCast, g1]
    rfl
  · rw [hnk]
    exact (ext_iff hw ho hr hb).2 (.inl hbr)
end

theorem VtableOwn (a : Option Addr) (cp : Nat) (xs : List ClsM) (r : Int) (p : Int × Int) (w : World) (hx : ClsSl (fun b => b < w.heap.size) w (.slice a xs.length cp) xs) (he : Lf.Env w) :
    Calls Tryz.prog 4 #[.slice a xs.length cp, .int .i64 r, .agg #[.int .i64 p.1, .int .i64 p.2]] w fun e w' => e = .returned (.bool true) ∧ Below w.heap.size w w' := by
  obtain ⟨wa, hwa⟩ : ∃ wa, (w.alloc (.cells #[.int .i64 p.1, .int .i64 p.2] 38)) = wa := ⟨_, rfl⟩
  have hba : Below w.heap.size w wa := by rw [← hwa]; exact (Below.refl _ _).alloc (Nat.le_refl _) _
  have p0 : wa.cell? ⟨w.heap.size, 0, none⟩ = some (.int .i64 p.1) := by rw [← hwa]; exact World.cell?_alloc_new ..
  have p1 : wa.cell? ⟨w.heap.size, 1, none⟩ = some (.int .i64 p.2) := by rw [← hwa]; exact World.cell?_alloc_new ..
  have HBA := Lib.hid hba
  have HP := Lib.hid (And.intro p0 p1)
  have HX := Lib.hid (hx.nextO hba)
  have HE := Lib.hid (he.below hba)
  have HAW := Lib.hid (awake13 wa)
  clear hx he hba p0 p1
  go_enter Tryz.func4, Tryz.ntmps4
  go_wp2_with fail
  try rw [hwa]
  clear hwa
  refine HAW.out.mono ?_
  rintro e w1 ⟨rfl, hb1⟩
  have HBU := Lib.hid (built13 a cp xs w1 (HX.out.nextO hb1) (HE.out.below hb1))
  have HB1 := Lib.hid (HBA.out.trans (hb1.mono HBA.out.size))
  have HP1 := Lib.hid (And.intro (below_cell' hb1 HP.out.1) (below_cell' hb1 HP.out.2))
  clear hb1 HX HE HAW HBA HP
  go_wp2_with fail
  refine HBU.out.mono ?_
  rintro e w2 ⟨rfl, h2⟩
  have H2 := Lib.hid h2
  have HB2 := Lib.hid (HB1.out.trans (h2.below.mono HB1.out.size))
  have p0 := below_cell' h2.below HP1.out.1
  have p1 := below_cell' h2.below HP1.out.2
  have HFL := Lib.hid (flA_defs xs)
  have HML := Lib.hid (mlA_defs xs)
  clear h2 HBU HB1 HP1
  generalize w1.heap.size = B at H2
  generalize defs xs = m at H2 HFL HML
  have HWF := Lib.hid H2.out.wf
  have HO := Lib.hid H2.out.ord
  have HSO := Lib.hid (VSlotOf H2.out HML.out p)
  have HP2 := Lib.hid (And.intro p0 p1)
  cases hxm : methAt m p with
  | none =>
    have HS : Hid (slotR m p = (0, 3)) := Lib.hid (by unfold slotR; rw [hxm])
    rw [HS.out] at HSO
    clear HS hxm
    go_wp2_with fail
    refine HSO.out.mono ?_
    rintro _ w3 ⟨rfl, hb⟩
    have HB3 := Lib.hid (HB2.out.trans (hb.mono HB2.out.size))
    clear hb HSO
    go_wp2
    go_ret
    exact ⟨rfl, HB3.out⟩
  | some x =>
    cases hv : virB m p with
    | false =>
      have HS : Hid (slotR m p = (0, 6)) := Lib.hid (by unfold slotR; rw [hxm]; simp only; rw [if_neg (by rw [hv]; decide)])
      rw [HS.out] at HSO
      clear HS hxm hv
      go_wp2_with fail
      refine HSO.out.mono ?_
      rintro _ w3 ⟨rfl, hb⟩
      have HB3 := Lib.hid (HB2.out.trans (hb.mono HB2.out.size))
      clear hb HSO
      go_wp2
      go_ret
      exact ⟨rfl, HB3.out⟩
    | true =>
      obtain ⟨c, hpc, hc, _⟩ := virB_own hxm hv
      obtain ⟨i, hi, hsr, hT2, hbl, hlaw⟩ := own_law HWF.out HO.out HFL.out hxm hv hc hpc
      have HLAW := Lib.hid hlaw
      have HTL := Lib.hid (tabM_len HWF.out HML.out hc)
      rw [hsr] at HSO
      have HBD := Lib.hid (fun wr (hr : Below w2.heap.size w2 wr) => VBuild (H2.out.next hr) HML.out p.1)
      rw [hbl] at HBD
      obtain ⟨T, hT⟩ : ∃ T, tabM m c = T := ⟨_, rfl⟩
      have HT2 : Hid (∃ h : i < T.length, T[i].2 = p) := Lib.hid (by subst hT; exact ⟨hi, hT2⟩)
      have HLT : Hid (∀ r (hr : r < m.length), extM m r p.1 = true → ∃ (hir : i < (tabM m r).length) (hit : i < T.length), (tabM m r)[i].1 = T[i].1 ∧ ovR m (tabM m r)[i].2 p = (true, 0) ∧ (∃ j : Nat, slotR m (tabM m r)[i].2 = ((j : Int), 0) ∧ j < (tabM m r).length) ∧ extM m r (tabM m r)[i].2.1 = true) := Lib.hid (fun r hr he => by
        obtain ⟨h1, h2⟩ := HLAW.out r hr he
        subst hT
        exact ⟨h1, hi, h2⟩)
      rw [hT] at HBD HTL hi
      simp only at HBD
      clear hxm hv hsr hbl hlaw HLAW hT hT2 hpc hc
      go_wp2_with fail
      refine HSO.out.mono ?_
      rintro _ w3 ⟨rfl, hb⟩
      have HB3 := Lib.hid hb
      have HBX := Lib.hid (HBD.out w3 hb)
      have p0 := below_cell' hb HP2.out.1
      have p1 := below_cell' hb HP2.out.2
      have HP3 := Lib.hid (And.intro p0 p1)
      clear hb HSO HP2
      go_wp2_with fail
      refine HBX.out.mono ?_
      rintro _ w4 ⟨v, rfl, hrow, hb⟩
      obtain ⟨ra, rc, rfl⟩ := own_slice hrow
      have HS4 : Hid (SlotSl (fun b => b < w4.heap.size) w4 (.slice ra T.length rc) T) := Lib.hid (Sl.mono (slotSl_row hrow (by have := HTL.out; omega)) (fun b hb => hb.2) fun _ _ h => h)
      have HB4 := Lib.hid (HB3.out.trans (hb.mono HB3.out.size))
      have p0 := below_cell' hb HP3.out.1
      have p1 := below_cell' hb HP3.out.2
      have HP4 := Lib.hid (And.intro p0 p1)
      clear hb hrow HBX HBD HP3
      obtain ⟨tb, tq, rfl, _, g0, g1, g2, g3⟩ := SlotSl.elem HS4.out hi
      have HRT := Lib.hid (And.intro g0 g1)
      obtain ⟨_, hti⟩ := HT2.out
      rw [hti] at g2 g3
      have k0 := cell_regrown p0
      have k1 := cell_regrown p1
      have k2 := cell_regrown g2
      have k3 := cell_regrown g3
      have hi0 : (0 : Int) ≤ (i : Int) := by omega
      have hi1 : (i : Int) < (T.length : Int) := by omega
      have cR : ∀ d os, Calls Tryz.prog 13 #[.agg #[.int .i64 p.1, .int .i64 p.2], .agg #[.int .i64 p.1, .int .i64 p.2]] (grow (redrawn w4 d) os) fun e w'' => e = .returned (.bool true) ∧ ∃ p : Regrown, w'' = grow (redrawn w4 p.d) p.os := fun d os => Calls.regrown_of (by have := RID p.1 p.2 p.1 p.2 (grow (redrawn w4 d) os); rw [beq_self_eq_true, beq_self_eq_true] at this; exact this)
      clear g0 g1 g2 g3 hti
      go_wp2_with fail
      go_cut [69] from 48 to 68 (fun s69 wy => Hid (s69 = .bool false ∧ Below w4.heap.size w4 wy))
      case first =>
        refine wp_region_quiet_below (by kernel_rfl) (by kernel_rfl) ?_
        repeat (with_reducible refine wpQuiet_step (fun K hK => ?_); go_simp; first | (with_reducible refine hK _ ?_; clear hK K) | (apply Exists.intro; refine ⟨fun _ => ?_, hK _ ?_⟩; (go_at_call 13; exact cR _ _); clear hK K))
        with_reducible refine wpQuiet_nil ?_
        intro _ hw'
        obtain ⟨⟨dq, osq⟩, hw''⟩ := hw'
        subst hw''
        have HB := Lib.hid (below_regrown w4 dq osq)
        clear cR k0 k1 k2 k3
        go_wp2_with fail
        go_meet
        exact Lib.hid ⟨by rw [decide_eq_false (by omega), decide_eq_false (by omega)]; rfl, HB.out⟩
      case rest =>
        obtain ⟨rfl, hbc⟩ := hcut.out
        have HBC := Lib.hid (HB4.out.trans (hbc.mono HB4.out.size))
        have HBCW := Lib.hid (HB2.out.trans (HBC.out.mono HB2.out.size))
        have HPC := Lib.hid (And.intro (below_cell' hbc HP4.out.1) (below_cell' hbc HP4.out.2))
        have HRTC := Lib.hid (And.intro (below_cell' hbc HRT.out.1) (below_cell' hbc HRT.out.2))
        have HB1 := VBuild (H2.out.next HBC.out) HML.out r
        clear hcut hbc HB4 HP4 HRT cR k0 k1 k2 k3 p0 p1 HS4
        rename_i hK0
        with_reducible refine hK0 _ _ ?_
        clear hK0
        cases her : entAt m r with
        | none =>
          rw [show bldM m r = ([], 3) by unfold bldM; rw [her]] at HB1
          have HBB := Lib.hid HB1
          clear HB1 her HLT HRTC HPC
          go_wp2_with fail
          refine HBB.out.mono ?_
          rintro _ w5 ⟨v, rfl, _, hb⟩
          have HB5 := Lib.hid (HBCW.out.trans (hb.mono HBCW.out.size))
          clear hb HBB
          go_wp2
          go_ret
          exact ⟨rfl, HB5.out⟩
        | some ee =>
          obtain ⟨rr, rfl, hr, _⟩ := entAt_some her
          cases hif : isIfaceM m (rr : Int) with
          | true =>
            rw [show bldM m (rr : Int) = ([], 23) by unfold bldM; rw [her]; simp only; rw [if_pos hif]] at HB1
            have HBB := Lib.hid HB1
            clear HB1 her HLT HRTC HPC hif
            go_wp2_with fail
            refine HBB.out.mono ?_
            rintro _ w5 ⟨v, rfl, _, hb⟩
            have HB5 := Lib.hid (HBCW.out.trans (hb.mono HBCW.out.size))
            clear hb HBB
            go_wp2
            go_ret
            exact ⟨rfl, HB5.out⟩
          | false =>
            rw [bld_ok hr hif] at HB1
            simp only at HB1
            have HBB := Lib.hid HB1
            have HTLR := Lib.hid (tabM_len HWF.out HML.out hr)
            have HLR := Lib.hid (HLT.out rr hr)
            obtain ⟨T1, hT1⟩ : ∃ T1, tabM m rr = T1 := ⟨_, rfl⟩
            have HLS : Hid (extM m rr p.1 = true → ∃ (h1 : i < T1.length) (h2 : i < T.length), T1[i].1 = T[i].1 ∧ ovR m T1[i].2 p = (true, 0) ∧ (∃ j : Nat, slotR m T1[i].2 = ((j : Int), 0) ∧ j < T1.length) ∧ extM m rr T1[i].2.1 = true) := Lib.hid (by subst hT1; exact HLR.out)
            rw [hT1] at HBB HTLR
            clear HB1 her hif hT1 HLR HLT
            go_wp2_with fail
            refine HBB.out.mono ?_
            rintro _ w5 ⟨v, rfl, hrow, hb⟩
            obtain ⟨ra1, rc1, rfl⟩ := own_slice hrow
            have HS5 : Hid (SlotSl (fun b => b < w5.heap.size) w5 (.slice ra1 T1.length rc1) T1) := Lib.hid (Sl.mono (slotSl_row hrow (by have := HTLR.out; omega)) (fun b hb => hb.2) fun _ _ h => h)
            have HB5 := Lib.hid (HBC.out.trans (hb.mono HBC.out.size))
            have p0 := below_cell' hb HPC.out.1
            have p1 := below_cell' hb HPC.out.2
            have HP5 := Lib.hid (And.intro p0 p1)
            have HRT5 := Lib.hid (And.intro (below_cell' hb HRTC.out.1) (below_cell' hb HRTC.out.2))
            have HEX := Lib.hid ((H2.out.next HB5.out).extends (rr : Int) p.1)
            clear hb hrow HBB HPC HRTC HBC HBCW
            go_wp2_with fail
            refine HEX.out.mono ?_
            rintro _ w6 ⟨rfl, hb⟩
            have HB6 := Lib.hid (HB5.out.trans (hb.mono HB5.out.size))
            have HS6 := Lib.hid (SlotSl.next HS5.out hb)
            have p0 := below_cell' hb HP5.out.1
            have p1 := below_cell' hb HP5.out.2
            have HP6 := Lib.hid (And.intro p0 p1)
            have HRT6 := Lib.hid (And.intro (below_cell' hb HRT5.out.1) (below_cell' hb HRT5.out.2))
            clear hb HEX HP5 HRT5 HB5 HS5
            cases hex : extM m (rr : Int) p.1 with
            | false =>
              have HBW := Lib.hid (HB2.out.trans (HB6.out.mono HB2.out.size))
              clear HLS HS6 HP6 HRT6 hex
              go_wp2
              go_ret
              exact ⟨rfl, HBW.out⟩
            | true =>
              obtain ⟨h1, h2, hrt, hov, ⟨j, hj, hjl⟩, hxt⟩ := HLS.out hex
              obtain ⟨ub, uq, rfl, _, g0, g1, g2, g3⟩ := SlotSl.elem HS6.out h1
              obtain ⟨⟨⟨z1, z2⟩, ⟨n1, n2⟩⟩, hz⟩ : ∃ Z, T1[i] = Z := ⟨_, rfl⟩
              have hz' : T[i].1 = (z1, z2) := by rw [← hrt, hz]
              have f0 := HRT6.out.1
              have f1 := HRT6.out.2
              rw [hz'] at f0 f1
              rw [hz] at g0 g1 g2 g3 hov hj hxt
              simp only at g0 g1 g2 g3 hov hj hxt f0 f1
              have k0 := cell_regrown g0
              have k1 := cell_regrown g1
              have k2 := cell_regrown f0
              have k3 := cell_regrown f1
              have hj1 : (i : Int) < (T1.length : Int) := by omega
              have hj2 : (j : Int) < (T1.length : Int) := by omega
              have HN6 := Lib.hid (And.intro g2 g3)
              have HOV := Lib.hid (fun wr (hr : Below w2.heap.size w2 wr) => OOverrides (H2.out.next hr) ((n1, n2) : Int × Int) p)
              have HSN := Lib.hid (fun wr (hr : Below w2.heap.size w2 wr) => VSlotOf (H2.out.next hr) HML.out ((n1, n2) : Int × Int))
              have HEN := Lib.hid (fun wr (hr : Below w2.heap.size w2 wr) => (H2.out.next hr).extends (rr : Int) n1)
              rw [hov] at HOV
              rw [hj] at HSN
              rw [hxt] at HEN
              have cR : ∀ d os, Calls Tryz.prog 13 #[.agg #[.int .i64 z1, .int .i64 z2], .agg #[.int .i64 z1, .int .i64 z2]] (grow (redrawn w6 d) os) fun e w'' => e = .returned (.bool true) ∧ ∃ p : Regrown, w'' = grow (redrawn w6 p.d) p.os := fun d os => Calls.regrown_of (by have := RID z1 z2 z1 z2 (grow (redrawn w6 d) os); rw [beq_self_eq_true, beq_self_eq_true] at this; exact this)
              clear g0 g1 g2 g3 f0 f1 hz hz' hov hj hxt hrt hex HLS HRT6 HS6 h2
              go_wp2_with fail
              go_cut [103] from 86 to 102 (fun s103 wy => Hid (s103 = .bool false ∧ Below w6.heap.size w6 wy))
              case first =>
                refine wp_region_quiet_below (by kernel_rfl) (by kernel_rfl) ?_
                repeat (with_reducible refine wpQuiet_step (fun K hK => ?_); go_simp; first | (with_reducible refine hK _ ?_; clear hK K) | (apply Exists.intro; refine ⟨fun _ => ?_, hK _ ?_⟩; (go_at_call 13; exact cR _ _); clear hK K))
                with_reducible refine wpQuiet_nil ?_
                intro _ hw'
                obtain ⟨⟨dq, osq⟩, hw''⟩ := hw'
                subst hw''
                have HB := Lib.hid (below_regrown w6 dq osq)
                clear cR k0 k1 k2 k3
                go_wp2_with fail
                go_meet
                exact Lib.hid ⟨by first | rfl | rw [decide_eq_false (by omega)], HB.out⟩
              case rest =>
                obtain ⟨rfl, hbc⟩ := hcut.out
                have HBC := Lib.hid (HB6.out.trans (hbc.mono HB6.out.size))
                have g2 := below_cell' hbc HN6.out.1
                have g3 := below_cell' hbc HN6.out.2
                have p0 := below_cell' hbc HP6.out.1
                have p1 := below_cell' hbc HP6.out.2
                clear hcut hbc cR k0 k1 k2 k3 HN6 HP6 HB6
                rename_i hK0
                with_reducible refine hK0 _ _ ?_
                clear hK0
                obtain ⟨wn, hwn⟩ : ∃ wn, (wc.alloc (.cells #[.int .i64 n1, .int .i64 n2] 38)) = wn := ⟨_, rfl⟩
                have hbn : Below wc.heap.size wc wn := by rw [← hwn]; exact (Below.refl _ _).alloc (Nat.le_refl _) _
                have n0 : wn.cell? ⟨wc.heap.size, 0, none⟩ = some (.int .i64 n1) := by rw [← hwn]; exact World.cell?_alloc_new ..
                have n1' : wn.cell? ⟨wc.heap.size, 1, none⟩ = some (.int .i64 n2) := by rw [← hwn]; exact World.cell?_alloc_new ..
                have HBN := Lib.hid (HBC.out.trans (hbn.mono HBC.out.size))
                have q0 := below_cell' hbn p0
                have q1 := below_cell' hbn p1
                have HOX := Lib.hid (HOV.out wn HBN.out)
                have HNN := Lib.hid (And.intro n0 n1')
                clear hbn HOV HBC
                go_wp2_with fail
                try rw [hwn]
                clear hwn g2 g3 p0 p1
                refine HOX.out.mono ?_
                rintro _ w7 ⟨rfl, hb⟩
                have HB7 := Lib.hid (HBN.out.trans (hb.mono HBN.out.size))
                have n0 := below_cell' hb HNN.out.1
                have n1' := below_cell' hb HNN.out.2
                have HN7 := Lib.hid (And.intro n0 n1')
                have HSX := Lib.hid (HSN.out w7 HB7.out)
                clear hb HOX HNN HBN HSN q0 q1
                go_wp2_with fail
                refine HSX.out.mono ?_
                rintro _ w8 ⟨rfl, hb⟩
                have HB8 := Lib.hid (HB7.out.trans (hb.mono HB7.out.size))
                have n0 := below_cell' hb HN7.out.1
                have n1' := below_cell' hb HN7.out.2
                have HEX := Lib.hid (HEN.out w8 HB8.out)
                clear hb HSX HN7 HB7 HEN
                go_wp2_with fail
                refine HEX.out.mono ?_
                rintro _ w9 ⟨rfl, hb⟩
                have HB9 := Lib.hid (HB8.out.trans (hb.mono HB8.out.size))
                have HBW := Lib.hid (HB2.out.trans (HB9.out.mono HB2.out.size))
                clear hb HEX HB8
                go_wp2
                go_ret
                exact ⟨rfl, HBW.out⟩
end Go.Proofs.YtipinmbpdgjalaaGreatDoor.Hi
