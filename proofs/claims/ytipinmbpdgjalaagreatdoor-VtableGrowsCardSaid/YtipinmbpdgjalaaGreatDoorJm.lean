/- VtableFirst: the walk. -/
import Derived.Test.YtipinmbpdgjalaaGreatDoorJl
import Derived.Test.YtipinmbpdgjalaaGreatDoorOT
set_option maxRecDepth 100000
set_option maxHeartbeats 8000000
set_option linter.unusedVariables false
set_option linter.unusedSimpArgs false
namespace Go.Proofs.YtipinmbpdgjalaaGreatDoor.Hi
open Go.RowKit Go.Shelf Go.Sort Bs

section
variable {m : List EntM} (hw : WFm m) (ho : OrdM m) (hf : FlA m)
theorem slotR_vir {p : Int × Int} {x : MethM} (hx : methAt m p = some x) : (virB m p = true → (slotR m p).2 = 0) ∧ (virB m p = false → (slotR m p).2 = 6) := by
  unfold slotR
  rw [hx]
  refine ⟨fun h => ?_, fun h => ?_⟩
  · simp only; rw [if_pos h]
  · simp only; rw [if_neg (by rw [h]; decide)]
theorem sel_bad {p : Int × Int} {x : MethM} (hx : methAt m p = some x) {r : Nat} (hr : r < m.length) (h : virB m p = false ∨ isIfaceM m (r : Int) = true ∨ extM m r p.1 = false) : (selM m r p).2 ≠ 0 := by
  have hb : (bldM m (r : Int)).2 = if isIfaceM m (r : Int) = true then 23 else 0 := by
    unfold bldM
    rw [entAt_nat hr]
    simp only
    split <;> rfl
  unfold selM
  rw [entAt_nat hr, hx]
  simp only
  cases hi : isIfaceM m (r : Int) with
  | true =>
    rw [hi] at hb
    rw [if_neg (by rw [hb]; decide), hb]
    decide
  | false =>
    rw [hi] at hb
    rw [if_pos (by rw [hb]; decide)]
    rw [if_neg]
    · decide
    · rintro ⟨h1, h2⟩
      rcases h with h | h | h
      · rw [(slotR_vir hx).2 h] at h1; cases h1
      · rw [hi] at h; cases h
      · rw [h] at h2; cases h2
include hw ho hf
theorem sel_good {p : Int × Int} {x : MethM} (hx : methAt m p = some x) {r : Nat} (hr : r < m.length) (h1 : virB m p = true) (h2 : isIfaceM m (r : Int) = false) (h3 : extM m r p.1 = true) : ∃ n : Int × Int, selM m r p = (n, 0) ∧ firstI m x p r = (n, 0) := by
  obtain ⟨i, hi, h4, hn⟩ := sel_in hw ho hf hx ((slotR_vir hx).1 h1) hr h3
  refine ⟨(tabM m r)[i].2, ?_, ?_⟩
  · unfold selM
    rw [entAt_nat hr, hx]
    simp only
    rw [if_pos (by rw [bld_ok hr h2]), if_pos ⟨(slotR_vir hx).1 h1, h3⟩, h4, Int.toNat_natCast, Int.toNat_natCast, List.getElem?_eq_getElem hi]
    rfl
  · unfold firstI
    rw [entAt_nat hr]
    simp only
    rw [Int.toNat_natCast]
    exact near_first hw ho hf hx hr hn
end

theorem Class5 {B bw : Nat} {w0 w : World} {m : List EntM} (h : Built B bw w0 w m) {i : Nat} (hi : i < m.length) :
    Calls Tryz.prog 20 #[.pointer (some ⟨bw, 0, none⟩), .int .i64 i] w fun r w' => ∃ (v0 v1 : ByteArray) (ia ma : Option Addr) (il ic mc : Nat) (f l : Int), r = .returned (.tuple #[.agg #[.string v0, .string v1, .slice ia il ic, .int .i64 f, .int .i64 l, .slice ma (clsAt m i).meths.length mc], .int .i64 0]) ∧ (clsAt m i).meths.length * 80 ≤ 140737488355328 ∧ MethSl (fun b => b < w'.heap.size) w' (.slice ma (clsAt m i).meths.length mc) (clsAt m i).meths ∧ Below w.heap.size w w' :=
  (Class_in h.hw h.live (entAt_nat hi)).mono fun r w' ⟨cs', h1, h2, h3⟩ => by
    obtain ⟨iv, mv, rfl, _⟩ := id h2
    obtain ⟨ia, ic, rfl, _⟩ := (ClsIs.shape h2).1
    have hm := (ClsIs.shape h2).2
    obtain ⟨ma, mc, rfl, _, hby, _⟩ := id hm
    rw [clsAt_at hi]
    exact ⟨_, _, _, _, _, _, _, _, _, h1, hby, hm.mono fun b hb => hb.2, h3⟩

theorem FirstAt {B bw : Nat} {w0 w : World} {m : List EntM} (h : Built B bw w0 w m) {p : Int × Int} {x : MethM} (hx : methAt m p = some x) (r : Int) :
    Calls Tryz.prog 23 #[.pointer (some ⟨bw, 0, none⟩), .int .i64 r, .agg #[.int .i64 p.1, .int .i64 p.2]] w fun e w' => e = .returned (.tuple #[.agg #[.int .i64 (firstI m x p r).1.1, .int .i64 (firstI m x p r).1.2], .int .i64 (firstI m x p r).2]) ∧ Below w.heap.size w w' := by
  obtain ⟨i, j, hi, hj, rfl, rfl⟩ := methAt_some hx
  exact OFirst h hi hj r

theorem VtableFirst (a : Option Addr) (cp : Nat) (xs : List ClsM) (w : World) (hx : ClsSl (fun b => b < w.heap.size) w (.slice a xs.length cp) xs) (he : Lf.Env w) :
    Calls Tryz.prog 5 #[.slice a xs.length cp] w fun e w' => e = .returned (.bool true) ∧ Below w.heap.size w w' := by
  have HX := Lib.hid hx
  have HE := Lib.hid he
  have HAW := Lib.hid (awake13 w)
  clear hx he
  go_enter Tryz.func5, Tryz.ntmps5
  go_wp2_with fail
  refine HAW.out.mono ?_
  rintro e w1 ⟨rfl, hb1⟩
  have HBU := Lib.hid (built13 a cp xs w1 (HX.out.nextO hb1) (HE.out.below hb1))
  have HB1 := Lib.hid hb1
  clear hb1 HX HE HAW
  go_wp2_with fail
  refine HBU.out.mono ?_
  rintro e w2 ⟨rfl, h2⟩
  have H2 := Lib.hid h2
  have HB2 := Lib.hid (HB1.out.trans (h2.below.mono HB1.out.size))
  have HFL := Lib.hid (flA_defs xs)
  have HML := Lib.hid (mlA_defs xs)
  clear h2 HBU HB1
  generalize w1.heap.size = B at H2
  generalize defs xs = m at H2 HFL HML
  have HWF := Lib.hid H2.out.wf
  have HO := Lib.hid H2.out.ord
  have hm300 := HWF.out.len
  go_wp2_with fail
  go_loopg [4] m.length (fun gk u wr => ∃ c : Nat, Hid (c + gk = m.length) ∧ u = .int .i64 c ∧ Hid (Below w2.heap.size w2 wr))
  case atStart => exact ⟨0, Lib.hid (Nat.zero_add _), rfl, Lib.hid (Below.refl _ _)⟩
  case round =>
    obtain ⟨c, hc, rfl, HBR⟩ := hrel
    have HLN := Lib.hid (Len (H2.out.next HBR.out).hw)
    by_cases hlt : c < m.length
    · have hlt' : (c : Int) < (m.length : Int) := by omega
      have HCL := Lib.hid (Class5 (H2.out.next HBR.out) hlt)
      have HCM := Lib.hid hlt
      have HMT : Hid (∀ k (hk : k < (clsAt m c).meths.length), methAt m ((c : Int), (k : Int)) = some (clsAt m c).meths[k]) := Lib.hid (fun k hk => by
        have e := clsAt_at HCM.out
        rw [methAt_at HCM.out (by rw [← e]; exact hk)]
        congr 1
        congr 1
        rw [e])
      obtain ⟨L, hL⟩ : ∃ L, (clsAt m c).meths = L := ⟨_, rfl⟩
      rw [hL] at HCL
      have HLL : Hid (∀ k (hk : k < L.length), methAt m ((c : Int), (k : Int)) = some L[k]) := Lib.hid (fun k hk => by subst hL; exact HMT.out k hk)
      clear hL HMT
      go_wp2_with fail
      refine HLN.out.mono ?_
      rintro e _ ⟨rfl, rfl⟩
      clear HLN
      go_wp2_with fail
      refine HCL.out.mono ?_
      rintro _ w3 ⟨v0, v1, ia, ma, il, ic, mc, cf, cl, rfl, hby, hms, hb⟩
      have hb' := hb.alloc hb.size (.cells #[.string v0, .string v1, .slice ia il ic, .int .i64 cf, .int .i64 cl, .slice ma L.length mc] 26)
      have c5 : (w3.alloc (.cells #[.string v0, .string v1, .slice ia il ic, .int .i64 cf, .int .i64 cl, .slice ma L.length mc] 26)).cell? ⟨w3.heap.size, 5, none⟩ = some (.slice ma L.length mc) := World.cell?_alloc_new ..
      have hms' := (hms.alike (Alike.of_below ((Below.refl w3.heap.size w3).alloc (Nat.le_refl _) (.cells #[.string v0, .string v1, .slice ia il ic, .int .i64 cf, .int .i64 cl, .slice ma L.length mc] 26)) fun _ h => h)).mono (T := fun b => b < (w3.alloc (.cells #[.string v0, .string v1, .slice ia il ic, .int .i64 cf, .int .i64 cl, .slice ma L.length mc] 26)).heap.size) fun b h => by simp; omega
      obtain ⟨wx, hwx⟩ : ∃ wx, (w3.alloc (.cells #[.string v0, .string v1, .slice ia il ic, .int .i64 cf, .int .i64 cl, .slice ma L.length mc] 26)) = wx := ⟨_, rfl⟩
      rw [hwx] at hb' c5 hms'
      have HBX := Lib.hid (HBR.out.trans (hb'.mono HBR.out.size))
      have HMS := Lib.hid hms'
      have HC5 := Lib.hid c5
      have hLb : (L.length : Int) ≤ 2000000000000 := by omega
      clear hb hb' hms hms' HCL HBR c5
      go_wp2_with fail
      try rw [hwx]
      clear hwx
      generalize w3.heap.size = cb at HC5 ⊢
      go_loopg [7] L.length (fun gk u wr => ∃ k : Nat, Hid (k + gk = L.length) ∧ u = .int .i64 k ∧ Hid (Below wx.heap.size wx wr))
      case atStart => exact ⟨0, Lib.hid (Nat.zero_add _), rfl, Lib.hid (Below.refl _ _)⟩
      case round =>
        obtain ⟨k, hk, rfl, HBY⟩ := hrel
        have c5 := below_cell' HBY.out HC5.out
        by_cases hkt : k < L.length
        · have hkt' : (k : Int) < (L.length : Int) := by omega
          obtain ⟨gb, go, gca, gcc, rfl, g0, _, g2, _⟩ := MethSl.elem HMS.out hkt
          have HXM := Lib.hid (HLL.out k hkt)
          obtain ⟨x, hxk⟩ : ∃ x, L[k] = x := ⟨_, rfl⟩
          rw [hxk] at g0 g2 HXM
          have HG := Lib.hid (And.intro g0 g2)
          have HBW := Lib.hid (HBX.out.trans (HBY.out.mono HBX.out.size))
          obtain ⟨wi, hwi⟩ : ∃ wi, (wr.alloc (.cells #[.int .i64 (c : Int), .int .i64 (k : Int)] 38)) = wi := ⟨_, rfl⟩
          have hbi : Below wr.heap.size wr wi := by rw [← hwi]; exact (Below.refl _ _).alloc (Nat.le_refl _) _
          have i0 : wi.cell? ⟨wr.heap.size, 0, none⟩ = some (.int .i64 (c : Int)) := by rw [← hwi]; exact World.cell?_alloc_new ..
          have i1 : wi.cell? ⟨wr.heap.size, 1, none⟩ = some (.int .i64 (k : Int)) := by rw [← hwi]; exact World.cell?_alloc_new ..
          have HBI := Lib.hid (HBY.out.trans (hbi.mono HBY.out.size))
          have HBIW := Lib.hid (HBX.out.trans (HBI.out.mono HBX.out.size))
          have HID := Lib.hid (And.intro i0 i1)
          have HSO := Lib.hid (VSlotOf (H2.out.next HBIW.out) HML.out ((c : Int), (k : Int)))
          have HSV := Lib.hid (slotR_vir HXM.out)
          have HVB : Hid (virB m ((c : Int), (k : Int)) = (!isIfaceM m (c : Int) && ((bits .and .i64 x.flags 10 == 0) && !(x.name.toList == initN.toList)))) := Lib.hid (by have hxm := HXM.out; unfold virB virX; rw [hxm])
          have hinit : initN.toList = [60, 105, 110, 105, 116, 62] := by decide +kernel
          rw [hinit] at HVB
          have HSB := Lib.hid (fun r hr => sel_bad (m := m) HXM.out (r := r) hr)
          have HSG := Lib.hid (fun r hr => sel_good HWF.out HO.out HFL.out HXM.out (r := r) hr)
          obtain ⟨⟨sI, sE⟩, hsr⟩ : ∃ R, slotR m ((c : Int), (k : Int)) = R := ⟨_, rfl⟩
          rw [hsr] at HSO HSV
          simp only at HSO HSV
          obtain ⟨vb, hvb⟩ : ∃ vb, virB m ((c : Int), (k : Int)) = vb := ⟨_, rfl⟩
          rw [hvb] at HSV HVB HSB HSG
          have hne : (!((sE == 0) == vb)) = false := by
            cases vb
            · rw [HSV.out.2 rfl]; rfl
            · rw [HSV.out.1 rfl]; rfl
          clear hsr hvb hbi g0 g2 hxk HSV hinit
          go_wp2_with fail
          try rw [hwi]
          clear hwi
          refine HSO.out.mono ?_
          rintro _ w4 ⟨rfl, hb⟩
          have HB4 := Lib.hid (HBI.out.trans (hb.mono HBI.out.size))
          have HID4 := Lib.hid (And.intro (below_cell' hb HID.out.1) (below_cell' hb HID.out.2))
          have HIF := Lib.hid ((H2.out.next (HBX.out.trans (HB4.out.mono HBX.out.size))).isIface (c : Int))
          clear hb HSO HBI HBIW HID c5 i0 i1
          generalize wr.heap.size = ib at HID4 ⊢
          go_upto_region 13 with fail
          go_cut [11] from 49 to 71 (fun s11 wy => Hid (s11 = .bool vb ∧ Below w4.heap.size w4 wy))
          case first =>
            clear hne
            go_wp2_with fail
            refine HIF.out.mono ?_
            rintro _ w5 ⟨rfl, hb⟩
            have HBK := Lib.hid hb
            have hbb := HB4.out.trans (hb.mono HB4.out.size)
            have c5 := below_cell' hbb HC5.out
            have g0 := below_cell' hbb HG.out.1
            have g2 := below_cell' hbb HG.out.2
            clear hb hbb HIF
            cases h1 : isIfaceM m (c : Int)
            all_goals
              cases h2 : (bits .and .i64 x.flags 10 == 0)
              all_goals
                cases h3 : (x.name.toList == [60, 105, 110, 105, 116, 62])
                all_goals
                  rw [h1, h2, h3] at HVB
                  go_wp2
                  go_meet
                  exact Lib.hid ⟨by rw [HVB.out]; rfl, HBK.out⟩
          case rest =>
            obtain ⟨rfl, hbc⟩ := hcut.out
            have HBC := Lib.hid (HB4.out.trans (hbc.mono HB4.out.size))
            have HIDC := Lib.hid (And.intro (below_cell' hbc HID4.out.1) (below_cell' hbc HID4.out.2))
            clear hcut hbc HB4 HID4 HIF HVB HG
            rename_i hK0
            with_reducible refine hK0 _ _ ?_
            clear hK0
            go_wp2_with fail
            clear hne
            go_loopg [12] m.length (fun gr u wr => ∃ r : Nat, Hid (r + gr = m.length) ∧ u = .int .i64 r ∧ Hid (Below wc.heap.size wc wr))
            case atStart => exact ⟨0, Lib.hid (Nat.zero_add _), rfl, Lib.hid (Below.refl _ _)⟩
            case round =>
              obtain ⟨r, hr, rfl, HBZ⟩ := hrel
              have HBZX := Lib.hid (HBC.out.trans (HBZ.out.mono HBC.out.size))
              have HBZW := Lib.hid (HBX.out.trans (HBZX.out.mono HBX.out.size))
              have HLN := Lib.hid (Len (H2.out.next HBZW.out).hw)
              by_cases hrt : r < m.length
              · have hrt' : (r : Int) < (m.length : Int) := by omega
                have i0 := below_cell' HBZ.out HIDC.out.1
                have i1 := below_cell' HBZ.out HIDC.out.2
                have HSE := Lib.hid (VSelect (H2.out.next HBZW.out) HML.out HFL.out (r : Int) ((c : Int), (k : Int)))
                have HB1 := Lib.hid (HSB.out r hrt)
                have HG1 := Lib.hid (HSG.out r hrt)
                obtain ⟨⟨⟨s1, s2⟩, se⟩, hsel⟩ : ∃ R, selM m r ((c : Int), (k : Int)) = R := ⟨_, rfl⟩
                rw [hsel] at HSE HB1 HG1
                simp only at HSE HB1 HG1
                clear hsel
                go_wp2_with fail
                refine HLN.out.mono ?_
                rintro e _ ⟨rfl, rfl⟩
                clear HLN
                go_wp2_with fail
                refine HSE.out.mono ?_
                rintro _ w5 ⟨rfl, hb⟩
                obtain ⟨wn, hwn⟩ : ∃ wn, (w5.alloc (.cells #[.int .i64 s1, .int .i64 s2] 38)) = wn := ⟨_, rfl⟩
                have hbn : Below w5.heap.size w5 wn := by rw [← hwn]; exact (Below.refl _ _).alloc (Nat.le_refl _) _
                have n0 : wn.cell? ⟨w5.heap.size, 0, none⟩ = some (.int .i64 s1) := by rw [← hwn]; exact World.cell?_alloc_new ..
                have n1 : wn.cell? ⟨w5.heap.size, 1, none⟩ = some (.int .i64 s2) := by rw [← hwn]; exact World.cell?_alloc_new ..
                have hb' := hb.trans (hbn.mono hb.size)
                have HBN := Lib.hid (HBZ.out.trans (hb'.mono HBZ.out.size))
                have HBNX := Lib.hid (HBC.out.trans (HBN.out.mono HBC.out.size))
                have HBNW := Lib.hid (HBX.out.trans (HBNX.out.mono HBX.out.size))
                have HSS := Lib.hid (And.intro n0 n1)
                have HIR := Lib.hid ((H2.out.next HBNW.out).isIface (r : Int))
                clear hb hbn hb' HSE i0 i1 HBZ HBZX HBZW
                cases vb with
                | false =>
                  have hse : (se == 0) = false := by simpa using HB1.out (.inl rfl)
                  clear HB1 HG1 HIR HSS n0 n1
                  go_wp2
                  try rw [hwn]
                  go_roundg (m.length - (r + 1))
                  case measure => have := hr.out; omega
                  case rel => exact ⟨r + 1, Lib.hid (by omega), by go_num, HBN⟩
                | true =>
                  go_wp2_with fail
                  try rw [hwn]
                  clear hwn n0 n1
                  refine HIR.out.mono ?_
                  rintro _ w6 ⟨rfl, hb⟩
                  have HB6 := Lib.hid (HBN.out.trans (hb.mono HBN.out.size))
                  have HB6X := Lib.hid (HBC.out.trans (HB6.out.mono HBC.out.size))
                  have HB6W := Lib.hid (HBX.out.trans (HB6X.out.mono HBX.out.size))
                  have HSS6 := Lib.hid (And.intro (below_cell' hb HSS.out.1) (below_cell' hb HSS.out.2))
                  have HEX := Lib.hid ((H2.out.next HB6W.out).extends (r : Int) (c : Int))
                  clear hb HIR HBN HBNX HBNW HSS
                  cases hir : isIfaceM m (r : Int) with
                  | true =>
                    have hse : (se == 0) = false := by simpa using HB1.out (.inr (.inl hir))
                    clear HB1 HG1 HEX HSS6 hir
                    go_wp2
                    go_roundg (m.length - (r + 1))
                    case measure => have := hr.out; omega
                    case rel => exact ⟨r + 1, Lib.hid (by omega), by go_num, HB6⟩
                  | false =>
                    go_wp2_with fail
                    refine HEX.out.mono ?_
                    rintro _ w7 ⟨rfl, hb⟩
                    have HB7 := Lib.hid (HB6.out.trans (hb.mono HB6.out.size))
                    have HB7X := Lib.hid (HBC.out.trans (HB7.out.mono HBC.out.size))
                    have HB7W := Lib.hid (HBX.out.trans (HB7X.out.mono HBX.out.size))
                    have HSS7 := Lib.hid (And.intro (below_cell' hb HSS6.out.1) (below_cell' hb HSS6.out.2))
                    have i0 := below_cell' HB7.out HIDC.out.1
                    have i1 := below_cell' HB7.out HIDC.out.2
                    have HFI := Lib.hid (FirstAt (H2.out.next HB7W.out) HXM.out (r : Int))
                    clear hb HEX HB6 HB6X HB6W HSS6
                    cases hex : extM m (r : Int) (c : Int) with
                    | false =>
                      have hse : (se == 0) = false := by simpa using HB1.out (.inr (.inr hex))
                      clear HB1 HG1 HFI HSS7 hir hex i0 i1
                      go_wp2
                      go_roundg (m.length - (r + 1))
                      case measure => have := hr.out; omega
                      case rel => exact ⟨r + 1, Lib.hid (by omega), by go_num, HB7⟩
                    | true =>
                      obtain ⟨⟨n1, n2⟩, e1, e2⟩ := HG1.out (by trivial) hir hex
                      injection e1 with e1 e3
                      injection e1 with e1 e4
                      subst e1; subst e4; subst e3
                      rw [e2] at HFI
                      simp only at HFI
                      clear HB1 HG1 hir hex e2
                      go_wp2_with fail
                      refine HFI.out.mono ?_
                      rintro _ w8 ⟨rfl, hb⟩
                      obtain ⟨wo, hwo⟩ : ∃ wo, (w8.alloc (.cells #[.int .i64 s1, .int .i64 s2] 38)) = wo := ⟨_, rfl⟩
                      have hbo : Below w8.heap.size w8 wo := by rw [← hwo]; exact (Below.refl _ _).alloc (Nat.le_refl _) _
                      have o0 : wo.cell? ⟨w8.heap.size, 0, none⟩ = some (.int .i64 s1) := by rw [← hwo]; exact World.cell?_alloc_new ..
                      have o1 : wo.cell? ⟨w8.heap.size, 1, none⟩ = some (.int .i64 s2) := by rw [← hwo]; exact World.cell?_alloc_new ..
                      have hb' := hb.trans (hbo.mono hb.size)
                      have HB8 := Lib.hid (HB7.out.trans (hb'.mono HB7.out.size))
                      have q0 := below_cell' hb' HSS7.out.1
                      have q1 := below_cell' hb' HSS7.out.2
                      have HRI := Lib.hid (fun w => RID s1 s2 s1 s2 w)
                      rw [beq_self_eq_true, beq_self_eq_true] at HRI
                      clear hb hbo hb' HFI HSS7 HB7 HB7X HB7W i0 i1
                      go_wp2_with fail
                      try rw [hwo]
                      clear hwo o0 o1 q0 q1
                      refine (HRI.out _).mono ?_
                      rintro _ w9 ⟨rfl, hb⟩
                      have HB9 := Lib.hid (HB8.out.trans (hb.mono HB8.out.size))
                      clear hb HRI HB8
                      go_wp2
                      go_roundg (m.length - (r + 1))
                      case measure => have := hr.out; omega
                      case rel => exact ⟨r + 1, Lib.hid (by omega), by go_num, HB9⟩
              · have hrt' : ¬ (r : Int) < (m.length : Int) := by omega
                clear hr HSB HSG HXM HIDC HBZW HBZ
                go_wp2_with fail
                refine HLN.out.mono ?_
                rintro e _ ⟨rfl, rfl⟩
                clear HLN
                go_wp2
                go_roundg (L.length - (k + 1))
                case measure => have := hk.out; omega
                case rel => exact ⟨k + 1, Lib.hid (by have := hk.out; omega), by go_num, HBZX⟩
        · have hkt' : ¬ (k : Int) < (L.length : Int) := by omega
          have HBW := Lib.hid (HBX.out.trans (HBY.out.mono HBX.out.size))
          clear hk HBY HBX HMS HC5
          go_wp2
          go_roundg (m.length - (c + 1))
          case measure => have := hc.out; omega
          case rel => exact ⟨c + 1, Lib.hid (by have := hc.out; omega), by go_num, HBW⟩
    · have hlt' : ¬ (c : Int) < (m.length : Int) := by omega
      have HBW := Lib.hid (HB2.out.trans (HBR.out.mono HB2.out.size))
      clear hc HBR
      go_wp2_with fail
      refine HLN.out.mono ?_
      rintro e _ ⟨rfl, rfl⟩
      clear HLN
      go_wp2
      go_ret
      exact ⟨rfl, HBW.out⟩
end Go.Proofs.YtipinmbpdgjalaaGreatDoor.Hi
