/- HierOrder: extending is an order. -/
import Derived.Test.YtmpkdgankficeaaDoorYa
set_option maxRecDepth 100000
set_option maxHeartbeats 1000000
set_option linter.unusedVariables false
set_option linter.unusedSimpArgs false
namespace Go.Proofs.YtmpkdgankficeaaDoor.Hi
open Go.RowKit Bs

/-- How many of the first b classes a extends. -/
def cntM (m : List EntM) (a b : Nat) : Nat := ((List.range b).filter fun b : Nat => extM m a b).length
theorem cntM_succ (m : List EntM) (a b : Nat) : cntM m a (b + 1) = cntM m a b + (if extM m a b = true then 1 else 0) := by
  unfold cntM
  rw [List.range_succ, List.filter_append, List.length_append]
  congr 1
  by_cases h : extM m a b = true
  · simp [h]
  · simp [h]
theorem cntM_le (m : List EntM) (a b : Nat) : cntM m a b ≤ b := by
  unfold cntM
  exact Nat.le_trans (List.length_filter_le ..) (by simp)

theorem HierOrder (a : Option Addr) (c : Nat) (xs : List ClsM) (w : World) (hx : ClsSl (fun b => b < w.heap.size) w (.slice a xs.length c) xs) (he : Lf.Env w) :
    Calls Tryd.prog 5 #[.slice a xs.length c] w fun e w' => e = .returned (.bool true) ∧ Below w.heap.size w w' := by
  have HX := Lib.hid hx
  have HE := Lib.hid he
  obtain ⟨a', c', hf, hle, hby, hcells⟩ := hx
  injection hf with hf1 hf2 hf3
  subst hf1; subst hf3
  clear hcells he
  go_enter Tryd.func5, Tryd.ntmps5
  go_wp2_with fail
  refine (awake06 _).mono ?_
  rintro e w1 ⟨rfl, hb1⟩
  go_wp2_with fail
  refine (New _).mono ?_
  rintro e w2 ⟨rfl, hw2, hb2⟩
  have H0 : Hid (Built w1.heap.size (w1.heap.size + 1) w w2 startM) := Lib.hid ⟨hw2, ordM_start, hb1.trans (hb2.mono hb1.size), hb1.size, hb2.size⟩
  clear hb1 hb2 hw2
  generalize w1.heap.size = B at H0
  go_wp2_with fail
  go_loopg [4] xs.length (fun gk u wr => ∃ (k : Nat) (m : List EntM), Hid (k + gk = xs.length ∧ m = defs (xs.take k)) ∧ u = .int .i64 k ∧ Hid (Built B (B + 1) w wr m))
  case atStart => exact ⟨0, startM, Lib.hid ⟨Nat.zero_add _, by simp [defs]⟩, rfl, H0⟩
  case round =>
    clear H0
    obtain ⟨k, m, hk, rfl, HB⟩ := hrel
    by_cases hlt : k < xs.length
    · have hlt' : (k : Int) < (xs.length : Int) := by omega
      obtain ⟨b, o, v2, v5, rfl, g0, g1, g2, g3, g4, g5, hcl, ⟨ia, ic, rfl⟩, ⟨ma, mc, rfl⟩⟩ := cls_elem HX.out (fun _ h => h) HB.out.below hlt
      have HD := Lib.hid (Define HB.out.hw HB.out.ord.short hcl (fun q hq => Nat.lt_of_lt_of_le hq HB.out.below.size) HB.out.live (HE.out.below HB.out.below))
      have HM : Hid (defs (xs.take (k + 1)) = defM m xs[k]) := Lib.hid (by rw [List.take_succ_eq_append_getElem hlt, defs_snoc, hk.out.2])
      clear hcl
      generalize xs[k] = c at g0 g1 g2 g3 g4 g5 HD HM
      go_wp2_with fail
      refine HD.out.mono ?_
      rintro e w3 ⟨rfl, hw3, hc3⟩
      have HB3 := Lib.hid (HB.out.define c hw3 hc3)
      clear hw3 hc3 g0 g1 g2 g3 g4 g5 HD
      go_wp2
      go_roundg (xs.length - (k + 1))
      case measure => have := hk.out.1; omega
      case rel => exact ⟨k + 1, defM m c, Lib.hid ⟨by omega, HM.out.symm⟩, by go_num, HB3⟩
    · clear hk
      have HLN := Lib.hid (Len HB.out.hw)
      have hm300 := HB.out.wf.len
      have HO := Lib.hid HB.out.ord
      have HWF := Lib.hid HB.out.wf
      go_wp2_with fail
      refine HLN.out.mono ?_
      rintro e _ ⟨rfl, rfl⟩
      have HB0 := HB
      clear HLN HB
      generalize wr = w4 at HB0
      go_wp2_with fail
      go_loopg [6] m.length (fun gk u wr => ∃ a : Nat, Hid (a + gk = m.length) ∧ u = .int .i64 a ∧ Hid (Built B (B + 1) w wr m))
      case atStart => exact ⟨0, Lib.hid (Nat.zero_add _), rfl, HB0⟩
      case round =>
        clear HB0
        obtain ⟨a, ha, rfl, HB⟩ := hrel
        by_cases hal : a < m.length
        · have hal' : (a : Int) < (m.length : Int) := by omega
          obtain ⟨d, hd⟩ : ∃ d : Nat, m[a].depth = d := ⟨m[a].depth.toNat, by have := (HWF.out.depth a hal).1; omega⟩
          have HCH : Hid ((ch m a).length = d + 1 ∧ (ch m a)[0]? = some (a : Int) ∧ (ch m a)[d]? = some 0) := Lib.hid (by
            have h1 := ch_len HWF.out hal
            have h2 := ch_last HWF.out hal
            rw [hd] at h1 h2
            exact ⟨by omega, ch_head HWF.out hal, by simpa using h2⟩)
          have HE1 := Lib.hid (HB.out.extends a a)
          rw [ext_refl HWF.out HO.out hal] at HE1
          go_wp2_with fail
          refine HE1.out.mono ?_
          rintro e w5 ⟨rfl, hb⟩
          have HB5 := Lib.hid (HB.out.next hb)
          have HE2 := Lib.hid (HB5.out.extends a (0 : Nat))
          rw [ext_root HWF.out HO.out hal] at HE2
          clear hb HE1
          go_wp2_with fail
          refine HE2.out.mono ?_
          rintro e w6 ⟨rfl, hb⟩
          have HB6 := Lib.hid (HB5.out.next hb)
          have HCC := Lib.hid (HB6.out.chain a hal)
          clear hb HE2 HB5
          go_wp2_with fail
          refine HCC.out.mono ?_
          rintro e w7 ⟨ad1, c1, rfl, hs1, hb⟩
          have HB7 := Lib.hid (HB6.out.next hb)
          have HS1 := Lib.hid hs1
          have HCC2 := Lib.hid (HB7.out.closure a hal)
          clear hb HCC HB6 hs1
          go_wp2_with fail
          refine HCC2.out.mono ?_
          rintro e w8 ⟨ad2, c2, rfl, hs2, hb⟩
          have HB8 := Lib.hid (HB7.out.next hb)
          have HS1' := Lib.hid (HS1.out.next hb)
          have HS2 := Lib.hid hs2
          have HDD := Lib.hid (HB8.out.depth a hal)
          clear hb HCC2 HB7 hs2 HS1
          rw [hd] at HDD
          go_wp2_with fail
          refine HDD.out.mono ?_
          rintro e _ ⟨rfl, rfl⟩
          obtain ⟨b1, o1, rfl, hc1⟩ := HS1'.out.elem (by rw [HCH.out.1]; omega)
          have g1 := hc1 0 _ HCH.out.2.1
          rw [Nat.add_zero] at g1
          have g2 := hc1 d _ HCH.out.2.2
          have hl1 : (((ch m a).length : Int) != (d : Int) + 1) = false := by rw [HCH.out.1]; simp
          have hdb : (d : Int) ≤ 300 := by have := (HWF.out.depth a hal).2.1; have := HWF.out.len; omega
          have hwr : wrap64 ((d : Int) + 1) = (d : Int) + 1 := by unfold wrap64; omega
          have hl2 : (0 : Int) < ((ch m a).length : Int) := by rw [HCH.out.1]; omega
          have hl3 : (d : Int) < ((ch m a).length : Int) := by rw [HCH.out.1]; omega
          clear hc1 HDD
          go_wp2_with fail
          clear g1 g2 hl1 hwr hl2 hl3
          go_loopg [13, 14] m.length (fun gk u uu wr => ∃ b : Nat, Hid (b + gk = m.length) ∧ u = .int .i64 (cntM m a b) ∧ uu = .int .i64 b ∧ Hid (Built B (B + 1) w wr m) ∧ Hid (IntSl (fun b => b < wr.heap.size) wr (.slice (some ⟨b1, o1, none⟩) (ch m a).length c1) (ch m a)) ∧ Hid (IntSl (fun b => b < wr.heap.size) wr (.slice ad2 (clo m a).length c2) (clo m a)))
          case atStart => exact ⟨0, Lib.hid (Nat.zero_add _), rfl, rfl, HB8, HS1', HS2⟩
          case round =>
            clear HB8 HS1' HS2
            obtain ⟨b, hb0, rfl, rfl, HB, HS1, HS2⟩ := hrel
            by_cases hbl : b < m.length
            · have hbl' : (b : Int) < (m.length : Int) := by omega
              obtain ⟨ex, hex⟩ : ∃ ex, extM m a b = ex := ⟨_, rfl⟩
              have HX1 := Lib.hid (HB.out.extends a b)
              rw [hex] at HX1
              have HCNT : Hid (cntM m a (b + 1) = cntM m a b + (if ex = true then 1 else 0)) := Lib.hid (by rw [← hex]; exact cntM_succ ..)
              have HCB : Hid (cntM m a b ≤ b) := Lib.hid (cntM_le ..)
              have HEX := Lib.hid hex
              clear hex
              cases ex
              · go_wp2_with fail
                refine HX1.out.mono ?_
                rintro e w9 ⟨rfl, hb⟩
                have HB9 := Lib.hid (HB.out.next hb)
                have HS19 := Lib.hid (HS1.out.next hb)
                have HS29 := Lib.hid (HS2.out.next hb)
                clear hb HX1
                have HC2 : Hid (cntM m a (b + 1) = cntM m a b) := Lib.hid (by rw [HCNT.out]; rfl)
                go_wp2
                go_roundg (m.length - (b + 1))
                case measure => have := hb0.out; omega
                case rel => exact ⟨b + 1, Lib.hid (by omega), by rw [HC2.out], by go_num, HB9, HS19, HS29⟩
              · have hcb : ((cntM m a b : Nat) : Int) ≤ 300 := by have := HCB.out; have := HWF.out.len; omega
                have hwc : wrap64 ((cntM m a b : Int) + 1) = (cntM m a b : Int) + 1 := by unfold wrap64; omega
                go_wp2_with fail
                refine HX1.out.mono ?_
                rintro e w9 ⟨rfl, hb⟩
                have HB9 := Lib.hid (HB.out.next hb)
                have HS19 := Lib.hid (HS1.out.next hb)
                have HS29 := Lib.hid (HS2.out.next hb)
                clear hb HX1 HB HS1 HS2
                have HC2 : Hid (((cntM m a (b + 1) : Nat) : Int) = (cntM m a b : Int) + 1) := Lib.hid (by rw [HCNT.out]; simp)
                have STEP : Hid (∀ c : Nat, c < m.length → extM m b c = true → extM m a c = true) := Lib.hid fun c hc h => ext_trans HWF.out HO.out hal hbl hc HEX.out h
                have HAN : Hid (a ≠ b → extM m b a = false) := Lib.hid fun h => ext_anti HWF.out HO.out hal hbl HEX.out h
                by_cases hab : a = b
                · have hne : ((a : Int) != (b : Int)) = false := by simp [hab]
                  clear hab
                  go_wp2_with fail
                  go_loopg [15] m.length (fun gk u wr => ∃ c : Nat, Hid (c + gk = m.length) ∧ u = .int .i64 c ∧ Hid (Built B (B + 1) w wr m) ∧ Hid (IntSl (fun b => b < wr.heap.size) wr (.slice (some ⟨b1, o1, none⟩) (ch m a).length c1) (ch m a)) ∧ Hid (IntSl (fun b => b < wr.heap.size) wr (.slice ad2 (clo m a).length c2) (clo m a)))
                  case atStart => exact ⟨0, Lib.hid (Nat.zero_add _), rfl, HB9, HS19, HS29⟩
                  case round =>
                    clear HB9 HS19 HS29
                    obtain ⟨cc, hc0, rfl, HB, HS1, HS2⟩ := hrel
                    by_cases hcl : cc < m.length
                    · have hcl' : (cc : Int) < (m.length : Int) := by omega
                      obtain ⟨ey, hey⟩ : ∃ ey, extM m b cc = ey := ⟨_, rfl⟩
                      have HY1 := Lib.hid (HB.out.extends b cc)
                      rw [hey] at HY1
                      have HEY := Lib.hid hey
                      clear hey
                      go_wp2_with fail
                      refine HY1.out.mono ?_
                      rintro e w11 ⟨rfl, hb⟩
                      have HB11 := Lib.hid (HB.out.next hb)
                      have HS111 := Lib.hid (HS1.out.next hb)
                      have HS211 := Lib.hid (HS2.out.next hb)
                      clear hb HY1 HB HS1 HS2
                      cases ey
                      · go_wp2
                        go_roundg (m.length - (cc + 1))
                        case measure => have := hc0.out; omega
                        case rel => exact ⟨cc + 1, Lib.hid (by omega), by go_num, HB11, HS111, HS211⟩
                      · have HY2 := Lib.hid (HB11.out.extends a cc)
                        rw [STEP.out cc hcl HEY.out] at HY2
                        go_wp2_with fail
                        refine HY2.out.mono ?_
                        rintro e w12 ⟨rfl, hb⟩
                        have HB12 := Lib.hid (HB11.out.next hb)
                        have HS112 := Lib.hid (HS111.out.next hb)
                        have HS212 := Lib.hid (HS211.out.next hb)
                        clear hb HY2 HB11 HS111 HS211
                        go_wp2
                        go_roundg (m.length - (cc + 1))
                        case measure => have := hc0.out; omega
                        case rel => exact ⟨cc + 1, Lib.hid (by omega), by go_num, HB12, HS112, HS212⟩
                    · go_wp2
                      go_roundg (m.length - (b + 1))
                      case measure => have := hb0.out; omega
                      case rel => exact ⟨b + 1, Lib.hid (by omega), by rw [HC2.out], by go_num, HB, HS1, HS2⟩
                · have hne : ((a : Int) != (b : Int)) = true := by simp; omega
                  have HX2 := Lib.hid (HB9.out.extends b a)
                  rw [HAN.out hab] at HX2
                  clear hab
                  go_wp2_with fail
                  refine HX2.out.mono ?_
                  rintro e w10 ⟨rfl, hb⟩
                  have HB10 := Lib.hid (HB9.out.next hb)
                  have HS110 := Lib.hid (HS19.out.next hb)
                  have HS210 := Lib.hid (HS29.out.next hb)
                  clear hb HX2 HB9 HS19 HS29
                  go_wp2_with fail
                  go_loopg [15] m.length (fun gk u wr => ∃ c : Nat, Hid (c + gk = m.length) ∧ u = .int .i64 c ∧ Hid (Built B (B + 1) w wr m) ∧ Hid (IntSl (fun b => b < wr.heap.size) wr (.slice (some ⟨b1, o1, none⟩) (ch m a).length c1) (ch m a)) ∧ Hid (IntSl (fun b => b < wr.heap.size) wr (.slice ad2 (clo m a).length c2) (clo m a)))
                  case atStart => exact ⟨0, Lib.hid (Nat.zero_add _), rfl, HB10, HS110, HS210⟩
                  case round =>
                    clear HB10 HS110 HS210
                    obtain ⟨cc, hc0, rfl, HB, HS1, HS2⟩ := hrel
                    by_cases hcl : cc < m.length
                    · have hcl' : (cc : Int) < (m.length : Int) := by omega
                      obtain ⟨ey, hey⟩ : ∃ ey, extM m b cc = ey := ⟨_, rfl⟩
                      have HY1 := Lib.hid (HB.out.extends b cc)
                      rw [hey] at HY1
                      have HEY := Lib.hid hey
                      clear hey
                      go_wp2_with fail
                      refine HY1.out.mono ?_
                      rintro e w11 ⟨rfl, hb⟩
                      have HB11 := Lib.hid (HB.out.next hb)
                      have HS111 := Lib.hid (HS1.out.next hb)
                      have HS211 := Lib.hid (HS2.out.next hb)
                      clear hb HY1 HB HS1 HS2
                      cases ey
                      · go_wp2
                        go_roundg (m.length - (cc + 1))
                        case measure => have := hc0.out; omega
                        case rel => exact ⟨cc + 1, Lib.hid (by omega), by go_num, HB11, HS111, HS211⟩
                      · have HY2 := Lib.hid (HB11.out.extends a cc)
                        rw [STEP.out cc hcl HEY.out] at HY2
                        go_wp2_with fail
                        refine HY2.out.mono ?_
                        rintro e w12 ⟨rfl, hb⟩
                        have HB12 := Lib.hid (HB11.out.next hb)
                        have HS112 := Lib.hid (HS111.out.next hb)
                        have HS212 := Lib.hid (HS211.out.next hb)
                        clear hb HY2 HB11 HS111 HS211
                        go_wp2
                        go_roundg (m.length - (cc + 1))
                        case measure => have := hc0.out; omega
                        case rel => exact ⟨cc + 1, Lib.hid (by omega), by go_num, HB12, HS112, HS212⟩
                    · go_wp2
                      go_roundg (m.length - (b + 1))
                      case measure => have := hb0.out; omega
                      case rel => exact ⟨b + 1, Lib.hid (by omega), by rw [HC2.out], by go_num, HB, HS1, HS2⟩
            · have hbn : b = m.length := by have := hb0.out; omega
              have HCN : Hid (((cntM m a b : Nat) : Int) = ((ch m a).length : Int) + ((clo m a).length : Int)) := Lib.hid (by
                have := ext_count HWF.out HO.out hal
                rw [hbn]
                unfold cntM
                omega)
              have hcn := HCN.out
              have hln : ((ch m a).length : Int) + ((clo m a).length : Int) ≤ 300 := by
                have := cntM_le m a b
                have := HWF.out.len
                omega
              have hwl : wrap64 (((ch m a).length : Int) + ((clo m a).length : Int)) = ((ch m a).length : Int) + ((clo m a).length : Int) := by unfold wrap64; omega
              clear hbn hln
              go_wp2_with fail
              clear hcn hwl
              go_loopg [16] (clo m a).length (fun gk u wr => ∃ i : Nat, Hid (i + gk = (clo m a).length) ∧ u = .int .i64 i ∧ Hid (Built B (B + 1) w wr m) ∧ Hid (IntSl (fun b => b < wr.heap.size) wr (.slice (some ⟨b1, o1, none⟩) (ch m a).length c1) (ch m a)) ∧ Hid (IntSl (fun b => b < wr.heap.size) wr (.slice ad2 (clo m a).length c2) (clo m a)))
              case atStart => exact ⟨0, Lib.hid (Nat.zero_add _), rfl, HB, HS1, HS2⟩
              case round =>
                clear HB HS1 HS2
                obtain ⟨i, hi0, rfl, HB, HS1, HS2⟩ := hrel
                have HCL : Hid ((clo m a).length ≤ 300) := Lib.hid (by rw [clo_at hal]; exact (clo_fits HWF.out hal).2)
                by_cases hil : i < (clo m a).length
                · have hil' : (i : Int) < ((clo m a).length : Int) := by omega
                  obtain ⟨b2, o2, rfl, hel⟩ := HS2.out.elem (by omega)
                  obtain ⟨y, hy, hya, hyi⟩ := clo_mem HWF.out HO.out hal _ (List.getElem_mem hil)
                  have hyl : y < m.length := by omega
                  have gi : wr.cell? ⟨b2, o2 + i, none⟩ = some (.int .i64 (y : Int)) := hel i _ (by rw [List.getElem?_eq_getElem hil, hy])
                  have HY1 := Lib.hid (HB.out.extends a y)
                  rw [(ext_iff HWF.out HO.out hal hyl).2 (.inr (by rw [← hy]; exact List.getElem_mem hil))] at HY1
                  have HIFY : Hid (isIfaceM m (y : Int) = true) := Lib.hid (by unfold isIfaceM; rw [entAt_nat hyl]; rw [clsAt_at hyl] at hyi; exact hyi)
                  have hne : ((y : Int) == (a : Int)) = false := by simp; omega
                  have hi300 : i < 300 := by have := HCL.out; omega
                  clear hy hyi hel hya hyl
                  go_wp2_with fail
                  refine HY1.out.mono ?_
                  rintro e w9 ⟨rfl, hb⟩
                  have HB9 := Lib.hid (HB.out.next hb)
                  have HS19 := Lib.hid (HS1.out.next hb)
                  have HS29 := Lib.hid (HS2.out.next hb)
                  have g9 := below_cell' hb gi
                  have HY2 := Lib.hid (HB9.out.isIface y)
                  rw [HIFY.out] at HY2
                  clear hb HY1 HB HS1 HS2 gi
                  go_wp2_with fail
                  refine HY2.out.mono ?_
                  rintro e w10 ⟨rfl, hb⟩
                  have HB10 := Lib.hid (HB9.out.next hb)
                  have HS110 := Lib.hid (HS19.out.next hb)
                  have HS210 := Lib.hid (HS29.out.next hb)
                  have g10 := below_cell' hb g9
                  clear hb HY2 HB9 HS19 HS29 g9
                  go_wp2
                  go_roundg ((clo m a).length - (i + 1))
                  case measure => have := hi0.out; omega
                  case rel => exact ⟨i + 1, Lib.hid (by omega), by go_num, HB10, HS110, HS210⟩
                · go_wp2_with fail
                  go_loopg [17] d (fun gk u wr => ∃ i : Nat, Hid (i + gk = d) ∧ u = .int .i64 i ∧ Hid (Built B (B + 1) w wr m) ∧ Hid (IntSl (fun b => b < wr.heap.size) wr (.slice (some ⟨b1, o1, none⟩) (ch m a).length c1) (ch m a)))
                  case atStart => exact ⟨0, Lib.hid (Nat.zero_add _), rfl, HB, HS1⟩
                  case round =>
                    clear HB HS1 HS2 hil hi0
                    obtain ⟨i, hi0, rfl, HB, HS1⟩ := hrel
                    by_cases hil : i < d
                    · have hil' : (i : Int) < (d : Int) := by omega
                      have hl := HCH.out.1
                      obtain ⟨b3, o3, e3, hel⟩ := HS1.out.elem (by omega)
                      injection e3 with e3
                      injection e3 with e3 e4
                      subst e3; subst e4
                      obtain ⟨x, hx⟩ : ∃ x, (ch m a)[i]? = some x := ⟨_, List.getElem?_eq_getElem (by omega)⟩
                      obtain ⟨y, hy⟩ : ∃ y, (ch m a)[i + 1]? = some y := ⟨_, List.getElem?_eq_getElem (by omega)⟩
                      have gx := hel i x hx
                      have gy := hel (i + 1) y hy
                      have HSU := Lib.hid (HB.out.super x)
                      rw [ch_super HWF.out hal i x y hx hy] at HSU
                      have hb1 : (i : Int) < ((ch m a).length : Int) := by omega
                      have hb2 : (i : Int) + 1 < ((ch m a).length : Int) := by omega
                      have hi300 : i < 300 := by omega
                      clear hel hx hy hl
                      go_wp2_with fail
                      refine HSU.out.mono ?_
                      rintro e _ ⟨rfl, rfl⟩
                      clear HSU
                      go_wp2
                      go_roundg (d - (i + 1))
                      case measure => have := hi0.out; omega
                      case rel => exact ⟨i + 1, Lib.hid (by have := hi0.out; omega), by go_num, HB, HS1⟩
                    · go_wp2
                      go_roundg (m.length - (a + 1))
                      case measure => have := ha.out; omega
                      case rel => exact ⟨a + 1, Lib.hid (by omega), by go_num, HB⟩
        · go_wp2
          go_ret
          exact ⟨rfl, HB.out.below⟩
end Go.Proofs.YtmpkdgankficeaaDoor.Hi
