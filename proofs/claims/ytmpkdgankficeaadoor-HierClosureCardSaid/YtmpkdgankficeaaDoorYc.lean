/- HierClosure: what closures are made of. -/
import Derived.Test.YtmpkdgankficeaaDoorRf
import Derived.Test.YtmpkdgankficeaaDoorXc
import Derived.Deep.RegionHeld3
set_option maxRecDepth 100000
set_option maxHeartbeats 1000000
set_option linter.unusedVariables false
set_option linter.unusedSimpArgs false
namespace Go.Proofs.YtmpkdgankficeaaDoor.Hi
open Go.RowKit Bs

theorem IntSl.take {S : Nat → Prop} {w : World} {a : Option Addr} {c : Nat} {xs ys r : List Int} (h : IntSl S w (.slice a xs.length c) xs) (he : xs = ys ++ r) : IntSl S w (.slice a ys.length c) ys := by
  subst he
  obtain ⟨a', c', hf, h2, h3, h4⟩ := h
  injection hf with f1 f2 f3
  subst f1; subst f3
  simp only [List.length_append] at h2 h3
  refine ⟨a, c, rfl, by omega, by omega, ?_⟩
  rcases h4 with h4 | ⟨b, o, e, hS, h4⟩
  · exact .inl (List.append_eq_nil_iff.1 h4).1
  · refine .inr ⟨b, o, e, hS, fun i hi => ?_⟩
    obtain ⟨cs, g1, g2, g3⟩ := h4 i (by simp; omega)
    rw [List.getElem_append_left hi] at g3
    exact ⟨cs, g1, g2, g3⟩
/-- A slice of texts stays as it is. -/
theorem StrSl.next {w w' : World} {v : Value} {xs : List ByteArray} (h : StrSl (fun b => b < w.heap.size) w v xs) (hb : Below w.heap.size w w') : StrSl (fun b => b < w'.heap.size) w' v xs :=
  (StrSl.alike h (Alike.of_below hb fun _ h => h)).mono fun _ hk => Nat.lt_of_lt_of_le hk hb.size
theorem StrSl.elem {S : Nat → Prop} {w : World} {a : Option Addr} {c : Nat} {xs : List ByteArray} (h : StrSl S w (.slice a xs.length c) xs) {k : Nat} (hk : k < xs.length) : xs[k].size ≤ maxLen ∧ ∃ b o, a = some ⟨b, o, none⟩ ∧ w.cell? ⟨b, o + k, none⟩ = some (.string xs[k]) := by
  obtain ⟨a', c', hf, h2, h3, h4⟩ := h
  injection hf with f1 f2 f3
  subst f1; subst f3
  rcases h4 with h4 | ⟨b, o, rfl, hS, h4⟩
  · rw [h4] at hk; simp at hk
  · obtain ⟨cs, g1, g2, rfl, g4⟩ := h4 k hk
    have := g2 0 (by simp)
    exact ⟨g4, b, o, rfl, by simpa using this⟩
theorem Built.drew {B bw : Nat} {w wr : World} {m : List EntM} (h : Built B bw w wr m) : Built B bw w wr.drew m := h.next (Below.drew (Below.refl _ _))

theorem HierClosure (a : Option Addr) (c : Nat) (xs : List ClsM) (w : World) (hx : ClsSl (fun b => b < w.heap.size) w (.slice a xs.length c) xs) (he : Lf.Env w) :
    Calls Tryd.prog 3 #[.slice a xs.length c] w fun e w' => e = .returned (.bool true) ∧ Below w.heap.size w w' := by
  have HX := Lib.hid hx
  have HE := Lib.hid he
  obtain ⟨a', c', hf, hle, hby, hcells⟩ := hx
  injection hf with hf1 hf2 hf3
  subst hf1; subst hf3
  clear hcells he
  go_enter Tryd.func3, Tryd.ntmps3
  go_wp2_with fail
  refine (awake06 _).mono ?_
  rintro e w1 ⟨rfl, hb1⟩
  go_wp2_with fail
  refine (New _).mono ?_
  rintro e w2 ⟨rfl, hw2, hb2⟩
  have H0 : Hid (Built w1.heap.size (w1.heap.size + 1) w w2 startM) := Lib.hid ⟨hw2, ordM_start, hb1.trans (hb2.mono hb1.size), hb1.size, hb2.size⟩
  clear hb1 hb2 hw2
  generalize w1.heap.size = B at H0
  go_wp2_with fail
  go_loopg [4] xs.length (fun gk u wr => ∃ (k : Nat) (m : List EntM), Hid (k + gk = xs.length ∧ m = defs (xs.take k)) ∧ u = .int .i64 k ∧ Hid (Built B (B + 1) w wr m))
  case atStart => exact ⟨0, startM, Lib.hid ⟨Nat.zero_add _, by simp [defs]⟩, rfl, H0⟩
  case round =>
    clear H0
    obtain ⟨k, m, hk, rfl, HB⟩ := hrel
    by_cases hlt : k < xs.length
    · have hlt' : (k : Int) < (xs.length : Int) := by omega
      obtain ⟨b, o, v2, v5, rfl, g0, g1, g2, g3, g4, g5, hcl, ⟨ia, ic, rfl⟩, ⟨ma, mc, rfl⟩⟩ := cls_elem HX.out (fun _ h => h) HB.out.below hlt
      have HD := Lib.hid (Define HB.out.hw HB.out.ord.short hcl (fun q hq => Nat.lt_of_lt_of_le hq HB.out.below.size) HB.out.live (HE.out.below HB.out.below))
      have HM : Hid (defs (xs.take (k + 1)) = defM m xs[k]) := Lib.hid (by rw [List.take_succ_eq_append_getElem hlt, defs_snoc, hk.out.2])
      clear hcl
      generalize xs[k] = c at g0 g1 g2 g3 g4 g5 HD HM
      go_wp2_with fail
      refine HD.out.mono ?_
      rintro e w3 ⟨rfl, hw3, hc3⟩
      have HB3 := Lib.hid (HB.out.define c hw3 hc3)
      clear hw3 hc3 g0 g1 g2 g3 g4 g5 HD
      go_wp2
      go_roundg (xs.length - (k + 1))
      case measure => have := hk.out.1; omega
      case rel => exact ⟨k + 1, defM m c, Lib.hid ⟨by omega, HM.out.symm⟩, by go_num, HB3⟩
    · clear hk
      have hm300 := HB.out.wf.len
      have HO := Lib.hid HB.out.ord
      have HWF := Lib.hid HB.out.wf
      have HB0 := HB
      clear HB
      generalize wr = w4 at HB0
      go_wp2_with fail
      go_loopg [5] m.length (fun gk u wr => ∃ a : Nat, Hid (a + gk = m.length) ∧ u = .int .i64 a ∧ Hid (Built B (B + 1) w wr m))
      case atStart => exact ⟨0, Lib.hid (Nat.zero_add _), rfl, HB0⟩
      case round =>
        clear HB0
        obtain ⟨a, ha, rfl, HB⟩ := hrel
        have HLN := Lib.hid (Len HB.out.hw)
        go_wp2_with fail
        refine HLN.out.mono ?_
        rintro e _ ⟨rfl, rfl⟩
        clear HLN
        by_cases hal : a < m.length
        · have hal' : (a : Int) < (m.length : Int) := by omega
          have HCLS := Lib.hid (Class_in HB.out.hw HB.out.live (entAt_nat hal))
          go_wp2_with fail
          refine HCLS.out.mono ?_
          rintro e w5 ⟨cs', rfl, hcl, hb⟩
          have hcl' := hcl
          obtain ⟨iv, mv, rfl, _⟩ := hcl'
          obtain ⟨ia, ic, rfl, _⟩ := (ClsIs.shape hcl).1
          obtain ⟨ma, mc, rfl, _⟩ := (ClsIs.shape hcl).2
          have HB5 := Lib.hid (HB.out.next hb)
          have HIF5 : Hid (StrSl (fun b => b < w5.heap.size) w5 (.slice ia m[a].c.ifaces.length ic) m[a].c.ifaces) := Lib.hid ((ClsIs.shape hcl).1.mono fun b hb => hb.2)
          have HIL : Hid (m[a].c.ifaces.length ≤ 8796093022208) := Lib.hid (by obtain ⟨_, _, e, _, h, _⟩ := HIF5.out; omega)
          clear hb HB hcl HCLS
          have HAL : Hid (Below w5.heap.size w5 (w5.alloc (.cells #[.string m[a].c.name, .string m[a].c.super, .slice ia m[a].c.ifaces.length ic, .int .i64 m[a].c.flags, .int .i64 m[a].c.loader, .slice ma m[a].c.meths.length mc] 32))) := Lib.hid ((Below.refl _ _).alloc (Nat.le_refl _) _)
          have HQ : Hid ((w5.alloc (.cells #[.string m[a].c.name, .string m[a].c.super, .slice ia m[a].c.ifaces.length ic, .int .i64 m[a].c.flags, .int .i64 m[a].c.loader, .slice ma m[a].c.meths.length mc] 32)).cell? ⟨w5.heap.size, 2, none⟩ = some (.slice ia m[a].c.ifaces.length ic)) := Lib.hid (World.cell?_alloc_new ..)
          have HB6 := Lib.hid (HB5.out.next HAL.out)
          have HIF6 := Lib.hid (StrSl.next HIF5.out HAL.out)
          have HCC := Lib.hid (HB6.out.closure a hal)
          clear HB5 HIF5 HAL
          go_wp2_with fail
          refine HCC.out.mono ?_
          rintro e w7 ⟨al, cl, rfl, hs, hb⟩
          have HQ7 := Lib.hid (below_cell' hb HQ.out)
          have HB7 := Lib.hid (HB6.out.next hb)
          have HIF7 := Lib.hid (StrSl.next HIF6.out hb)
          have HS7 := Lib.hid hs
          clear HQ HB6 HIF6 hs hb HCC
          generalize w5.heap.size = q at HQ7
          obtain ⟨ifs, hifs⟩ : ∃ ifs, m[a].c.ifaces = ifs := ⟨_, rfl⟩
          rw [hifs] at HQ7 HIF7 HIL
          have HIFS := Lib.hid hifs
          clear hifs
          by_cases h0 : 0 < a
          · obtain ⟨p, hp, hsp, r, hr⟩ := clo_pre HWF.out HO.out hal h0
            have HSP := Lib.hid hsp
            have HSU := Lib.hid (HB7.out.super a)
            rw [hsp] at HSU
            have HPRE := Lib.hid hr
            have H0A := Lib.hid h0
            clear hsp hr h0
            go_wp2_with fail
            refine HSU.out.mono ?_
            rintro e _ ⟨rfl, rfl⟩
            have HCC2 := Lib.hid (HB7.out.closure p hp)
            clear HSU
            go_wp2_with fail
            refine HCC2.out.mono ?_
            rintro e w8 ⟨al2, cl2, rfl, hs2, hb⟩
            have HQ8 := Lib.hid (below_cell' hb HQ7.out)
            have HB8 := Lib.hid (HB7.out.next hb)
            have HIF8 := Lib.hid (StrSl.next HIF7.out hb)
            have HS8 := Lib.hid (HS7.out.next hb)
            have HA8 := Lib.hid hs2
            clear HQ7 HB7 HIF7 HS7 hb hs2 HCC2
            have hle : decide (((clo m a).length : Int) < ((clo m p).length : Int)) = false := decide_eq_false (by rw [HPRE.out]; simp; omega)
            have hle3 : (clo m p).length ≤ (clo m a).length := by rw [HPRE.out]; simp
            have hle4 : decide ((clo m a).length < (clo m p).length) = false := decide_eq_false (by omega)
            have hle2 : ((clo m p).length : Int) ≤ (cl : Int) := by have := HS8.out.room.1; rw [HPRE.out] at this; simp at this; omega
            have HSN := Lib.hid (RSame HA8.out (HS8.out.take HPRE.out))
            rw [decide_eq_true rfl] at HSN
            go_wp2_with fail
            refine HSN.out.mono ?_
            rintro e w9 ⟨rfl, hb⟩
            have HQ9 := Lib.hid (below_cell' hb HQ8.out)
            have HB9 := Lib.hid (HB8.out.next hb)
            have HIF9 := Lib.hid (StrSl.next HIF8.out hb)
            have HS9 := Lib.hid (HS8.out.next hb)
            have HA9 := Lib.hid (HA8.out.next hb)
            have HCL : Hid ((clo m a).length ≤ 300) := Lib.hid (by rw [clo_at hal]; exact (clo_fits HWF.out hal).2)
            clear HQ8 HB8 HIF8 HS8 HA8 hb HSN
            go_wp2_with fail
            clear hle hle2 hle3 hle4
            go_loopg [14] (clo m a).length (fun gk u wr => ∃ i : Nat, Hid (i + gk = (clo m a).length) ∧ u = .int .i64 i ∧ Hid (Built B (B + 1) w wr m) ∧ Hid (wr.cell? ⟨q, 2, none⟩ = some (.slice ia ifs.length ic)) ∧ Hid (StrSl (fun b => b < wr.heap.size) wr (.slice ia ifs.length ic) ifs) ∧ Hid (IntSl (fun b => b < wr.heap.size) wr (.slice al (clo m a).length cl) (clo m a)) ∧ Hid (IntSl (fun b => b < wr.heap.size) wr (.slice al2 (clo m p).length cl2) (clo m p)))
            case atStart => exact ⟨0, Lib.hid (Nat.zero_add _), rfl, HB9, HQ9, HIF9, HS9, HA9⟩
            case round =>
              clear HB9 HQ9 HIF9 HS9 HA9
              obtain ⟨i, hi0, rfl, HB, HQ, HIF, HS, HA⟩ := hrel
              by_cases hil : i < (clo m a).length
              · have hil' : (i : Int) < ((clo m a).length : Int) := by omega
                have hi300 : i < 300 := by have := HCL.out; omega
                obtain ⟨bb, oo, rfl, hel⟩ := HS.out.elem (by omega)
                obtain ⟨x, hx⟩ : ∃ x, (clo m a)[i]? = some x := ⟨_, List.getElem?_eq_getElem hil⟩
                have HXI := Lib.hid hx
                clear hel hx
                go_wp2_with fail
                go_loopg [15] ((clo m a).length - (i + 1)) (fun gk u wr => ∃ j : Nat, Hid (j + gk = (clo m a).length ∧ i < j) ∧ u = .int .i64 j ∧ Hid (Built B (B + 1) w wr m) ∧ Hid (wr.cell? ⟨q, 2, none⟩ = some (.slice ia ifs.length ic)) ∧ Hid (StrSl (fun b => b < wr.heap.size) wr (.slice ia ifs.length ic) ifs) ∧ Hid (IntSl (fun b => b < wr.heap.size) wr (.slice (some ⟨bb, oo, none⟩) (clo m a).length cl) (clo m a)) ∧ Hid (IntSl (fun b => b < wr.heap.size) wr (.slice al2 (clo m p).length cl2) (clo m p)))
                case atStart => exact ⟨i + 1, Lib.hid ⟨by omega, by omega⟩, by go_num, HB, HQ, HIF, HS, HA⟩
                case round =>
                  clear HB HQ HIF HS HA
                  obtain ⟨j, hj0, rfl, HB, HQ, HIF, HS, HA⟩ := hrel
                  by_cases hjl : j < (clo m a).length
                  · have hjl' : (j : Int) < ((clo m a).length : Int) := by omega
                    have hj300 : j < 300 := by have := HCL.out; omega
                    obtain ⟨bb2, oo2, e3, hel⟩ := HS.out.elem (by omega)
                    injection e3 with e3
                    injection e3 with e3 e4
                    subst e3; subst e4
                    obtain ⟨y, hy⟩ : ∃ y, (clo m a)[j]? = some y := ⟨_, List.getElem?_eq_getElem hjl⟩
                    have gx := hel i x HXI.out
                    have gy := hel j y hy
                    have hap := clo_apart HWF.out HO.out hal hj0.out.2 HXI.out hy
                    have hne : (x == y) = false := by simpa using hap.1
                    have HY1 := Lib.hid (HB.out.drew.extends x y)
                    rw [hap.2] at HY1
                    clear hap hy hel
                    go_wp2_with fail
                    go_region_held3 (fun w' => w'.cell? ⟨bb, oo + i, none⟩ = some (.int .i64 x) ∧ w'.cell? ⟨bb, oo + j, none⟩ = some (.int .i64 y))
                      (first | exact ⟨gx, gy⟩ | exact ⟨kx, ky⟩)
                      (first | (go_at_call 16; refine HY1.out.mono ?_; rintro e w10 ⟨rfl, hb⟩; (have kx := below_cell' hb (show wr.drew.cell? _ = _ from gx)); (have ky := below_cell' hb (show wr.drew.cell? _ = _ from gy))))
                    have HB10 := Lib.hid (HB.out.drew.next hb)
                    have HQ10 := Lib.hid (below_cell' hb (show wr.drew.cell? _ = _ from HQ.out))
                    have HIF10 := Lib.hid (StrSl.next (w := wr.drew) (StrSl.alike HIF.out fun _ _ => rfl) hb)
                    have HS10 := Lib.hid (IntSl.next (w := wr.drew) (IntSl.alike HS.out fun _ _ => rfl) hb)
                    have HA10 := Lib.hid (IntSl.next (w := wr.drew) (IntSl.alike HA.out fun _ _ => rfl) hb)
                    clear hb kx ky gx gy HB HQ HIF HS HA HY1
                    go_wp2
                    go_roundg ((clo m a).length - (j + 1))
                    case measure => have := hj0.out.1; omega
                    case rel => exact ⟨j + 1, Lib.hid ⟨by omega, by have := hj0.out.2; omega⟩, by go_num, HB10, HQ10, HIF10, HS10, HA10⟩
                  · obtain ⟨bb2, oo2, e3, hel⟩ := HS.out.elem (by omega)
                    injection e3 with e3
                    injection e3 with e3 e4
                    subst e3; subst e4
                    have gx := hel i x HXI.out
                    have HWHY : Hid (whyM m ((clo m p).contains x) ifs x = true) := Lib.hid (by
                      rw [← HIFS.out]
                      exact clo_why HWF.out HO.out hal H0A.out HSP.out (List.mem_of_getElem? HXI.out))
                    have HRH := Lib.hid (RHas x HA.out)
                    generalize (clo m p).contains x = b0 at HWHY HRH
                    clear hel
                    go_wp2_with fail
                    clear hjl hj0
                    refine HRH.out.mono ?_
                    rintro e _ ⟨rfl, rfl⟩
                    have HW0 : Hid (b0 = whyM m b0 (ifs.take 0) x) := Lib.hid (by simp [whyM])
                    clear HRH gx
                    go_wp2_with fail
                    go_loopg [16, 17] ifs.length (fun gk u uu wr => ∃ k : Nat, Hid (k + gk = ifs.length) ∧ u = .bool (whyM m b0 (ifs.take k) x) ∧ uu = .int .i64 k ∧ Hid (Built B (B + 1) w wr m) ∧ Hid (wr.cell? ⟨q, 2, none⟩ = some (.slice ia ifs.length ic)) ∧ Hid (StrSl (fun b => b < wr.heap.size) wr (.slice ia ifs.length ic) ifs) ∧ Hid (IntSl (fun b => b < wr.heap.size) wr (.slice (some ⟨bb, oo, none⟩) (clo m a).length cl) (clo m a)) ∧ Hid (IntSl (fun b => b < wr.heap.size) wr (.slice al2 (clo m p).length cl2) (clo m p)))
                    case atStart => exact ⟨0, Lib.hid (Nat.zero_add _), by rw [← HW0.out], rfl, HB, HQ, HIF, HS, HA⟩
                    case round =>
                      clear HB HQ HIF HS HA HW0
                      obtain ⟨k, hk0, rfl, rfl, HB, HQ, HIF, HS, HA⟩ := hrel
                      have hq := HQ.out
                      by_cases hkl : k < ifs.length
                      · have hkl' : (k : Int) < (ifs.length : Int) := by omega
                        have hkb : k < 8796093022208 := by have := HIL.out; omega
                        obtain ⟨hsz, bs, os, rfl, gs⟩ := HIF.out.elem hkl
                        obtain ⟨y, hyl, hbn, hyc⟩ := ifs_own HO.out hal (s := ifs[k]) (by rw [HIFS.out]; exact List.getElem_mem hkl)
                        have HTK : Hid (whyM m b0 (ifs.take (k + 1)) x = (whyM m b0 (ifs.take k) x || extM m y x)) := Lib.hid (by
                          rw [List.take_succ_eq_append_getElem hkl, whyM_snoc, hbn])
                        have HBN := Lib.hid (ByName HB.out.hw ifs[k] hsz)
                        rw [hbn] at HBN
                        clear hsz hbn hyc
                        generalize ifs[k] = s at gs HBN
                        generalize whyM m b0 (ifs.take k) x = wy at HTK
                        go_wp2_with fail
                        refine HBN.out.mono ?_
                        rintro e _ ⟨rfl, rfl⟩
                        obtain ⟨bb2, oo2, e3, hel⟩ := HS.out.elem (by omega)
                        injection e3 with e3
                        injection e3 with e3 e4
                        subst e3; subst e4
                        have gx := hel i x HXI.out
                        clear hel HBN
                        cases wy
                        · have HEX := Lib.hid (HB.out.extends y x)
                          go_wp2_with fail
                          refine HEX.out.mono ?_
                          rintro e w10 ⟨rfl, hb⟩
                          have HB10 := Lib.hid (HB.out.next hb)
                          have HQ10 := Lib.hid (below_cell' hb HQ.out)
                          have HIF10 := Lib.hid (StrSl.next HIF.out hb)
                          have HS10 := Lib.hid (IntSl.next HS.out hb)
                          have HA10 := Lib.hid (IntSl.next HA.out hb)
                          clear hb gx gs hq HB HQ HIF HS HA HEX
                          go_wp2
                          go_roundg (ifs.length - (k + 1))
                          case measure => have := hk0.out; omega
                          case rel => exact ⟨k + 1, Lib.hid (by omega), by rw [HTK.out]; rfl, by go_num, HB10, HQ10, HIF10, HS10, HA10⟩
                        · go_wp2
                          go_roundg (ifs.length - (k + 1))
                          case measure => have := hk0.out; omega
                          case rel => exact ⟨k + 1, Lib.hid (by omega), by rw [HTK.out]; rfl, by go_num, HB, HQ, HIF, HS, HA⟩
                      · have hkn : k = ifs.length := by have := hk0.out; omega
                        have HWT : Hid (whyM m b0 (ifs.take k) x = true) := Lib.hid (by rw [hkn, List.take_length]; exact HWHY.out)
                        have hwt := HWT.out
                        clear hkn
                        go_wp2
                        go_roundg ((clo m a).length - (i + 1))
                        case measure => have := hi0.out; omega
                        case rel => exact ⟨i + 1, Lib.hid (by omega), by go_num, HB, HQ, HIF, HS, HA⟩
              · go_wp2_with fail
                go_loopg [20] ifs.length (fun gk u wr => ∃ k : Nat, Hid (k + gk = ifs.length) ∧ u = .int .i64 k ∧ Hid (Built B (B + 1) w wr m) ∧ Hid (wr.cell? ⟨q, 2, none⟩ = some (.slice ia ifs.length ic)) ∧ Hid (StrSl (fun b => b < wr.heap.size) wr (.slice ia ifs.length ic) ifs) ∧ Hid (IntSl (fun b => b < wr.heap.size) wr (.slice al (clo m a).length cl) (clo m a)))
                case atStart => exact ⟨0, Lib.hid (Nat.zero_add _), rfl, HB, HQ, HIF, HS⟩
                case round =>
                  clear HB HQ HIF HS HA
                  obtain ⟨k, hk0, rfl, HB, HQ, HIF, HS⟩ := hrel
                  have hq := HQ.out
                  by_cases hkl : k < ifs.length
                  · have hkl' : (k : Int) < (ifs.length : Int) := by omega
                    have hkb : k < 8796093022208 := by have := HIL.out; omega
                    obtain ⟨hsz, bs, os, rfl, gs⟩ := HIF.out.elem hkl
                    obtain ⟨y, hyl, hbn, hyc⟩ := ifs_own HO.out hal (s := ifs[k]) (by rw [HIFS.out]; exact List.getElem_mem hkl)
                    have HBN := Lib.hid (ByName HB.out.hw ifs[k] hsz)
                    rw [hbn] at HBN
                    have HRH := Lib.hid (RHas (y : Int) HS.out)
                    rw [show (clo m a).contains (y : Int) = true by simpa using hyc] at HRH
                    clear hsz hbn hyc
                    generalize ifs[k] = s at gs HBN
                    go_wp2_with fail
                    refine HBN.out.mono ?_
                    rintro e _ ⟨rfl, rfl⟩
                    clear HBN gs
                    go_wp2_with fail
                    refine HRH.out.mono ?_
                    rintro e _ ⟨rfl, rfl⟩
                    clear HRH hq
                    go_wp2
                    go_roundg (ifs.length - (k + 1))
                    case measure => have := hk0.out; omega
                    case rel => exact ⟨k + 1, Lib.hid (by omega), by go_num, HB, HQ, HIF, HS⟩
                  · go_wp2
                    go_roundg (m.length - (a + 1))
                    case measure => have := ha.out; omega
                    case rel => exact ⟨a + 1, Lib.hid (by omega), by go_num, HB⟩
          · have HZ : Hid (superM m a = (0, 6) ∧ (clo m a).length = 0 ∧ ifs.length = 0) := Lib.hid (by
              obtain rfl : a = 0 := by omega
              refine ⟨super_zero HWF.out HO.out, by rw [clo_zero HO.out]; rfl, ?_⟩
              rw [← HIFS.out, ifs_zero HO.out hal]; rfl)
            have HSU := Lib.hid (HB7.out.super a)
            rw [HZ.out.1] at HSU
            clear h0
            go_wp2_with fail
            refine HSU.out.mono ?_
            rintro e _ ⟨rfl, rfl⟩
            have HCC2 := Lib.hid (HB7.out.closure 0 HO.out.root.1)
            clear HSU
            go_wp2_with fail
            refine HCC2.out.mono ?_
            rintro e w8 ⟨al2, cl2, rfl, hs2, hb⟩
            have HQ8 := Lib.hid (below_cell' hb HQ7.out)
            have HB8 := Lib.hid (HB7.out.next hb)
            clear HQ7 HB7 HIF7 HS7 hb hs2 HCC2
            have hz1 := HZ.out.2.1
            have hz2 := HZ.out.2.2
            go_wp2_with fail
            go_loopg [14] 0 (fun gk u wr => u = .int .i64 0 ∧ Hid (Built B (B + 1) w wr m) ∧ Hid (wr.cell? ⟨q, 2, none⟩ = some (.slice ia ifs.length ic)))
            case atStart => exact ⟨rfl, HB8, HQ8⟩
            case round =>
              clear HB8 HQ8
              obtain ⟨rfl, HB, HQ⟩ := hrel
              go_wp2_with fail
              go_loopg [20] 0 (fun gk u wr => u = .int .i64 0 ∧ Hid (Built B (B + 1) w wr m) ∧ Hid (wr.cell? ⟨q, 2, none⟩ = some (.slice ia ifs.length ic)))
              case atStart => exact ⟨rfl, HB, HQ⟩
              case round =>
                clear HB HQ
                obtain ⟨rfl, HB, HQ⟩ := hrel
                have hq := HQ.out
                go_wp2
                go_roundg (m.length - (a + 1))
                case measure => have := ha.out; omega
                case rel => exact ⟨a + 1, Lib.hid (by omega), by go_num, HB⟩
        · go_wp2
          go_ret
          exact ⟨rfl, HB.out.below⟩
end Go.Proofs.YtmpkdgankficeaaDoor.Hi
