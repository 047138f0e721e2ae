/- HierGrows: what arrives later changes nothing. -/
import Derived.Test.YtmpkdgankficeaaDoorXg
set_option maxRecDepth 100000
set_option maxHeartbeats 1000000
set_option linter.unusedVariables false
set_option linter.unusedSimpArgs false
namespace Go.Proofs.YtmpkdgankficeaaDoor.Hi
open Go.RowKit Bs

theorem HierGrows (a : Option Addr) (cp : Nat) (xs : List ClsM) (cs : List Value) (d : ClsM) (w : World) (hx : ClsSl (fun b => b < w.heap.size) w (.slice a xs.length cp) xs) (hd : ClsIs (fun b => b < w.heap.size) w cs d) (he : Lf.Env w) :
    Calls Tryd.prog 4 #[.slice a xs.length cp, .agg cs.toArray] w fun e w' => e = .returned (.bool true) ∧ Below w.heap.size w w' := by
  have hd' := hd
  obtain ⟨iv, mv, rfl, p1, _, hi, _, _, hm⟩ := hd'
  obtain ⟨ia, ic, rfl, _⟩ := id hi
  obtain ⟨ma, mc, rfl, _⟩ := id hm
  rw [show [Value.string d.name, .string d.super, .slice ia d.ifaces.length ic, .int .i64 d.flags, .int .i64 d.loader, .slice ma d.meths.length mc].toArray = #[Value.string d.name, .string d.super, .slice ia d.ifaces.length ic, .int .i64 d.flags, .int .i64 d.loader, .slice ma d.meths.length mc] from rfl]
  have HX := Lib.hid hx
  have HE := Lib.hid he
  have HD := Lib.hid hd
  have HP1 := Lib.hid p1
  obtain ⟨a', c', hf, hle, hby, hcells⟩ := hx
  injection hf with hf1 hf2 hf3
  subst hf1; subst hf3
  obtain ⟨wb, hwb⟩ : ∃ wb, wb = w.alloc (.cells #[.string d.name, .string d.super, .slice ia d.ifaces.length ic, .int .i64 d.flags, .int .i64 d.loader, .slice ma d.meths.length mc] 32) := ⟨_, rfl⟩
  have hbb : Below w.heap.size w wb := by rw [hwb]; exact (Below.refl _ _).alloc (Nat.le_refl _) _
  have hbox : wb.cell? ⟨w.heap.size, 0, none⟩ = some (.string d.name) ∧ wb.cell? ⟨w.heap.size, 1, none⟩ = some (.string d.super) ∧ wb.cell? ⟨w.heap.size, 2, none⟩ = some (.slice ia d.ifaces.length ic) ∧ wb.cell? ⟨w.heap.size, 3, none⟩ = some (.int .i64 d.flags) ∧ wb.cell? ⟨w.heap.size, 4, none⟩ = some (.int .i64 d.loader) ∧ wb.cell? ⟨w.heap.size, 5, none⟩ = some (.slice ma d.meths.length mc) := by
    rw [hwb]
    exact ⟨World.cell?_alloc_new .., World.cell?_alloc_new .., World.cell?_alloc_new .., World.cell?_alloc_new .., World.cell?_alloc_new .., World.cell?_alloc_new ..⟩
  have HBX := Lib.hid hbox
  have HBB := Lib.hid hbb
  clear hcells he hi hm hd p1 hbox hbb
  go_enter Tryd.func4, Tryd.ntmps4
  go_wp2_with fail
  rw [← hwb]
  clear hwb
  refine (awake06 _).mono ?_
  rintro e w1 ⟨rfl, hb1⟩
  have HB1 := Lib.hid hb1
  clear hb1
  go_wp2_with fail
  refine (New _).mono ?_
  rintro e w2 ⟨rfl, hw2, hb2⟩
  have HB2 := Lib.hid hb2
  have HW2 := Lib.hid hw2
  clear hb2 hw2
  go_wp2_with fail
  refine (New _).mono ?_
  rintro e w3 ⟨rfl, hw3, hb3⟩
  have H0 : Hid (Two (w1.heap.size + 1) (w2.heap.size + 1) wb w3 startM startM) := Lib.hid (by
    have e1 := HB1.out.size
    have e2 := HB2.out.size
    have e3 := hb3.size
    refine ⟨_, _, HW2.out.alike e3 (Alike.of_below hb3 fun k hk => hk.2), hw3, fun k hk => ⟨by omega, by omega⟩, fun k hk => ⟨by omega, hk.2⟩, fun k hk ht => by omega, ordM_start, ordM_start, (HB1.out.trans (HB2.out.mono e1)).trans (hb3.mono (by omega))⟩)
  clear HB1 HB2 HW2 hw3 hb3
  generalize w1.heap.size + 1 = bw at H0
  generalize w2.heap.size + 1 = bv at H0
  go_wp2_with fail
  go_loopg [7] xs.length (fun gk u wr => ∃ (k : Nat) (m : List EntM), Hid (k + gk = xs.length) ∧ u = .int .i64 k ∧ Hid (Two bw bv wb wr m m))
  case atStart => exact ⟨0, startM, Lib.hid (Nat.zero_add _), rfl, H0⟩
  case round =>
    clear H0
    obtain ⟨k, m, hk, rfl, HB⟩ := hrel
    by_cases hlt : k < xs.length
    · have hlt' : (k : Int) < (xs.length : Int) := by omega
      have HBW : Hid (Below w.heap.size w wr) := Lib.hid (HBB.out.trans (HB.out.below.mono HBB.out.size))
      obtain ⟨b, o, v2, v5, rfl, g0, g1, g2, g3, g4, g5, hcl, ⟨ja, jc, rfl⟩, ⟨na, nc, rfl⟩⟩ := cls_elem HX.out (fun _ h => h) HBW.out hlt
      have HD1 := Lib.hid (HB.out.defines hcl (fun q hq => Nat.lt_of_lt_of_le hq HBW.out.size) (HE.out.below HBW.out))
      clear hcl
      have HXK := Lib.hid (fun (w' : World) (hb : Below w.heap.size w w') => cls_elem HX.out (fun _ h => h) hb hlt)
      generalize xs[k] = c at g0 g1 g2 g3 g4 g5 HD1 HXK
      go_wp2_with fail
      refine HD1.out.mono ?_
      rintro e w4 ⟨rfl, ht⟩
      have HT4 := Lib.hid ht
      have HBW4 : Hid (Below w.heap.size w w4) := Lib.hid (HBB.out.trans (ht.below.mono HBB.out.size))
      clear ht g0 g1 g2 g3 g4 g5 HD1
      obtain ⟨b2, o2, v2, v5, e3, g0, g1, g2, g3, g4, g5, hcl, ⟨ja2, jc2, rfl⟩, ⟨na2, nc2, rfl⟩⟩ := HXK.out w4 HBW4.out
      injection e3 with e3
      injection e3 with e3 e4
      subst e3; subst e4
      have HD2 := Lib.hid (HT4.out.swap.defines hcl (fun q hq => Nat.lt_of_lt_of_le hq HBW4.out.size) (HE.out.below HBW4.out))
      clear hcl
      go_wp2_with fail
      refine HD2.out.mono ?_
      rintro e w5 ⟨rfl, ht⟩
      have HT5 := Lib.hid ht.swap
      clear ht g0 g1 g2 g3 g4 g5 HD2
      go_wp2
      go_roundg (xs.length - (k + 1))
      case measure => have := hk.out; omega
      case rel => exact ⟨k + 1, defM m c, Lib.hid (by omega), by go_num, HT5⟩
    · clear hk
      have hm300 := HB.out.wf.len
      have HWF := Lib.hid HB.out.wf
      have HLN := Lib.hid HB.out.len
      have HBW : Hid (Below w.heap.size w wr) := Lib.hid (HBB.out.trans (HB.out.below.mono HBB.out.size))
      have HDD := Lib.hid (HB.out.defines (HD.out.alike (Alike.of_below HBW.out fun _ h => h)) (fun q hq => Nat.lt_of_lt_of_le hq HBW.out.size) (HE.out.below HBW.out))
      have x0 := below_cell' HB.out.below HBX.out.1
      have x1 := below_cell' HB.out.below HBX.out.2.1
      have x2 := below_cell' HB.out.below HBX.out.2.2.1
      have x3 := below_cell' HB.out.below HBX.out.2.2.2.1
      have x4 := below_cell' HB.out.below HBX.out.2.2.2.2.1
      have x5 := below_cell' HB.out.below HBX.out.2.2.2.2.2
      go_wp2_with fail
      refine HLN.out.mono ?_
      rintro e _ ⟨rfl, rfl⟩
      go_wp2_with fail
      refine HDD.out.mono ?_
      rintro e w4 ⟨rfl, ht⟩
      have HT := Lib.hid ht
      have y0 := below_cell' ht.below HBX.out.1
      have G2 := Lib.hid (grown2 HWF.out d)
      have HMM := Lib.hid (defM_cases m d)
      clear x0 x1 x2 x3 x4 x5 ht HDD HLN HB HBW
      generalize defM m d = m2 at HT G2 HMM
      by_cases hde : defE m d = 0
      · have HM2 : Hid (m2 = m ++ [entOf m d] ∧ defN m d = m.length) := Lib.hid (by
          rcases HMM.out with h | h
          · exact h.2
          · exact absurd hde h.1)
        have hdn := HM2.out.2
        have HLN2 := Lib.hid HT.out.len
        have hl2 : ((m2.length : Nat) : Int) = (m.length : Int) + 1 := by rw [HM2.out.1]; simp
        rw [hl2] at HLN2
        clear hl2
        rw [hde, hdn]
        go_wp2_with fail
        refine HLN2.out.mono ?_
        rintro e _ ⟨rfl, rfl⟩
        clear HLN2 y0
        go_wp2_with fail
        go_loopg [15] m.length (fun gk u wr => ∃ a : Nat, Hid (a + gk = m.length) ∧ u = .int .i64 a ∧ Hid (Two bw bv wb wr m2 m))
        case atStart => exact ⟨0, Lib.hid (Nat.zero_add _), rfl, HT⟩
        case round =>
          clear HT
          obtain ⟨a, ha, rfl, HB⟩ := hrel
          by_cases hal : a < m.length
          · have hal' : (a : Int) < (m.length : Int) := by omega
            have hal2 : a < m2.length := by have := G2.out.len; omega
            have HC1 := Lib.hid (HB.out.class hal2)
            rw [G2.out.ent a hal] at HC1
            go_wp2_with fail
            refine HC1.out.mono ?_
            rintro e w5 ⟨cs1, rfl, hcl, hb⟩
            have hcl' := hcl
            obtain ⟨iv, mv, rfl, _⟩ := hcl'
            obtain ⟨ja, jc, rfl, _⟩ := (ClsIs.shape hcl).1
            obtain ⟨na, nc, rfl, _⟩ := (ClsIs.shape hcl).2
            have HAL : Hid (Below w5.heap.size w5 (w5.alloc (.cells #[.string m[a].c.name, .string m[a].c.super, .slice ja m[a].c.ifaces.length jc, .int .i64 m[a].c.flags, .int .i64 m[a].c.loader, .slice na m[a].c.meths.length nc] 32))) := Lib.hid ((Below.refl _ _).alloc (Nat.le_refl _) _)
            have HXB : Hid (∀ w', Below (w5.alloc (.cells #[.string m[a].c.name, .string m[a].c.super, .slice ja m[a].c.ifaces.length jc, .int .i64 m[a].c.flags, .int .i64 m[a].c.loader, .slice na m[a].c.meths.length nc] 32)).heap.size (w5.alloc (.cells #[.string m[a].c.name, .string m[a].c.super, .slice ja m[a].c.ifaces.length jc, .int .i64 m[a].c.flags, .int .i64 m[a].c.loader, .slice na m[a].c.meths.length nc] 32)) w' → w'.cell? ⟨w5.heap.size, 0, none⟩ = some (.string m[a].c.name) ∧ w'.cell? ⟨w5.heap.size, 1, none⟩ = some (.string m[a].c.super) ∧ w'.cell? ⟨w5.heap.size, 2, none⟩ = some (.slice ja m[a].c.ifaces.length jc) ∧ w'.cell? ⟨w5.heap.size, 3, none⟩ = some (.int .i64 m[a].c.flags) ∧ w'.cell? ⟨w5.heap.size, 4, none⟩ = some (.int .i64 m[a].c.loader) ∧ w'.cell? ⟨w5.heap.size, 5, none⟩ = some (.slice na m[a].c.meths.length nc)) := Lib.hid fun w' hb =>
              ⟨below_cell' hb (World.cell?_alloc_new ..), below_cell' hb (World.cell?_alloc_new ..), below_cell' hb (World.cell?_alloc_new ..), below_cell' hb (World.cell?_alloc_new ..), below_cell' hb (World.cell?_alloc_new ..), below_cell' hb (World.cell?_alloc_new ..)⟩
            have HT6 := Lib.hid ((HB.out.next hb).next HAL.out)
            have HX6 := Lib.hid (hcl.next HAL.out)
            have HC2 := Lib.hid (HT6.out.swap.class hal)
            clear hb hcl HC1 HB
            go_wp2_with fail
            generalize hwx : (w5.alloc (.cells #[.string m[a].c.name, .string m[a].c.super, .slice ja m[a].c.ifaces.length jc, .int .i64 m[a].c.flags, .int .i64 m[a].c.loader, .slice na m[a].c.meths.length nc] 32)) = w6 at HT6 HX6 HC2 HXB HAL
            clear hwx HAL
            generalize w5.heap.size = qx at HXB
            refine HC2.out.mono ?_
            rintro e w7 ⟨cs2, rfl, hcl, hb⟩
            have hcl' := hcl
            obtain ⟨iv, mv, rfl, _⟩ := hcl'
            obtain ⟨ka, kc, rfl, _⟩ := (ClsIs.shape hcl).1
            obtain ⟨la, lc, rfl, _⟩ := (ClsIs.shape hcl).2
            have HAL : Hid (Below w7.heap.size w7 (w7.alloc (.cells #[.string m[a].c.name, .string m[a].c.super, .slice ka m[a].c.ifaces.length kc, .int .i64 m[a].c.flags, .int .i64 m[a].c.loader, .slice la m[a].c.meths.length lc] 32))) := Lib.hid ((Below.refl _ _).alloc (Nat.le_refl _) _)
            have HYB : Hid (∀ w', Below (w7.alloc (.cells #[.string m[a].c.name, .string m[a].c.super, .slice ka m[a].c.ifaces.length kc, .int .i64 m[a].c.flags, .int .i64 m[a].c.loader, .slice la m[a].c.meths.length lc] 32)).heap.size (w7.alloc (.cells #[.string m[a].c.name, .string m[a].c.super, .slice ka m[a].c.ifaces.length kc, .int .i64 m[a].c.flags, .int .i64 m[a].c.loader, .slice la m[a].c.meths.length lc] 32)) w' → w'.cell? ⟨w7.heap.size, 0, none⟩ = some (.string m[a].c.name) ∧ w'.cell? ⟨w7.heap.size, 1, none⟩ = some (.string m[a].c.super) ∧ w'.cell? ⟨w7.heap.size, 2, none⟩ = some (.slice ka m[a].c.ifaces.length kc) ∧ w'.cell? ⟨w7.heap.size, 3, none⟩ = some (.int .i64 m[a].c.flags) ∧ w'.cell? ⟨w7.heap.size, 4, none⟩ = some (.int .i64 m[a].c.loader) ∧ w'.cell? ⟨w7.heap.size, 5, none⟩ = some (.slice la m[a].c.meths.length lc)) := Lib.hid fun w' hb =>
              ⟨below_cell' hb (World.cell?_alloc_new ..), below_cell' hb (World.cell?_alloc_new ..), below_cell' hb (World.cell?_alloc_new ..), below_cell' hb (World.cell?_alloc_new ..), below_cell' hb (World.cell?_alloc_new ..), below_cell' hb (World.cell?_alloc_new ..)⟩
            have HB8 := Lib.hid (hb.trans (HAL.out.mono hb.size))
            have HT8 := Lib.hid (HT6.out.next HB8.out)
            have HX8 := Lib.hid (HX6.out.next HB8.out)
            have HY8 := Lib.hid (hcl.next HAL.out)
            have HP1 := Lib.hid (HT8.out.chain hal2)
            rw [G2.out.chn a hal] at HP1
            clear hb hcl HC2 HT6 HX6
            go_wp2_with fail
            generalize hwx : (w7.alloc (.cells #[.string m[a].c.name, .string m[a].c.super, .slice ka m[a].c.ifaces.length kc, .int .i64 m[a].c.flags, .int .i64 m[a].c.loader, .slice la m[a].c.meths.length lc] 32)) = w8 at HB8 HT8 HX8 HY8 HYB HP1 HAL
            clear hwx HAL
            generalize w7.heap.size = qy at HYB
            refine HP1.out.mono ?_
            rintro e w9 ⟨ap, cp1, rfl, hp, hb⟩
            have HP9 := Lib.hid hp
            have HT9 := Lib.hid (HT8.out.next hb)
            have HL9 := Lib.hid hb
            have HQ1 := Lib.hid (HT9.out.swap.chain hal)
            clear hp hb HP1 HT8
            go_wp2_with fail
            refine HQ1.out.mono ?_
            rintro e w10 ⟨aq, cq1, rfl, hp, hb⟩
            have HP10 := Lib.hid (HP9.out.next hb)
            have HQ10 := Lib.hid hp
            have HT10 := Lib.hid (HT9.out.next hb)
            have HL10 := Lib.hid (HL9.out.trans (hb.mono HL9.out.size))
            have HR1 := Lib.hid (HT10.out.closure hal2)
            rw [G2.out.cls a hal] at HR1
            clear hp hb HQ1 HT9 HL9 HP9
            go_wp2_with fail
            refine HR1.out.mono ?_
            rintro e w11 ⟨ar, cr1, rfl, hp, hb⟩
            have HP11 := Lib.hid (HP10.out.next hb)
            have HQ11 := Lib.hid (HQ10.out.next hb)
            have HR11 := Lib.hid hp
            have HT11 := Lib.hid (HT10.out.next hb)
            have HL11 := Lib.hid (HL10.out.trans (hb.mono HL10.out.size))
            have HS1 := Lib.hid (HT11.out.swap.closure hal)
            clear hp hb HR1 HT10 HL10 HP10 HQ10
            go_wp2_with fail
            refine HS1.out.mono ?_
            rintro e w12 ⟨as1, cs1', rfl, hp, hb⟩
            have HP12 := Lib.hid (HP11.out.next hb)
            have HQ12 := Lib.hid (HQ11.out.next hb)
            have HR12 := Lib.hid (HR11.out.next hb)
            have HS12 := Lib.hid hp
            have HT12 := Lib.hid (HT11.out.next hb)
            have HL12 := Lib.hid (HL11.out.trans (hb.mono HL11.out.size))
            have HX12 := Lib.hid (HX8.out.next HL12.out)
            have HY12 := Lib.hid (HY8.out.next HL12.out)
            have HSM := Lib.hid (RCls HX12.out HY12.out (fun _ h => h) (fun _ h => h))
            obtain ⟨x0, x1, x2, x3, x4, x5⟩ := HXB.out w12 (HB8.out.trans (HL12.out.mono HB8.out.size))
            obtain ⟨y0, y1, y2, y3, y4, y5⟩ := HYB.out w12 HL12.out
            clear hp hb HS1 HT11 HL11 HP11 HQ11 HR11 HX8 HY8 HB8 HXB HYB
            go_wp2_with fail
            refine HSM.out.mono ?_
            rintro e w13 ⟨rfl, hb⟩
            have HT13 := Lib.hid (HT12.out.next hb)
            have HR13 := Lib.hid (HR12.out.next hb)
            have HS13 := Lib.hid (HS12.out.next hb)
            have HN1 := Lib.hid (RSame (HP12.out.next hb) (HQ12.out.next hb))
            rw [decide_eq_true rfl] at HN1
            clear hb x0 x1 x2 x3 x4 x5 y0 y1 y2 y3 y4 y5 HSM HX12 HY12 HP12 HQ12 HR12 HS12 HT12 HL12
            go_wp2_with fail
            refine HN1.out.mono ?_
            rintro e w14 ⟨rfl, hb⟩
            have HT14 := Lib.hid (HT13.out.next hb)
            have HN2 := Lib.hid (RSame (HR13.out.next hb) (HS13.out.next hb))
            rw [decide_eq_true rfl] at HN2
            clear hb HN1 HT13 HR13 HS13
            go_wp2_with fail
            refine HN2.out.mono ?_
            rintro e w15 ⟨rfl, hb⟩
            have HT15 := Lib.hid (HT14.out.next hb)
            clear hb HN2 HT14
            go_wp2_with fail
            go_loopg [28] m.length (fun gk u wr => ∃ b : Nat, Hid (b + gk = m.length) ∧ u = .int .i64 b ∧ Hid (Two bw bv wb wr m2 m))
            case atStart => exact ⟨0, Lib.hid (Nat.zero_add _), rfl, HT15⟩
            case round =>
              clear HT15
              obtain ⟨b, hb0, rfl, HB⟩ := hrel
              by_cases hbl : b < m.length
              · have hbl' : (b : Int) < (m.length : Int) := by omega
                have hbl2 : b < m2.length := by have := G2.out.len; omega
                have HE1 := Lib.hid (HB.out.extends a b)
                rw [G2.out.ext a b hal hbl] at HE1
                go_wp2_with fail
                refine HE1.out.mono ?_
                rintro e w16 ⟨rfl, hb⟩
                have HT16 := Lib.hid (HB.out.next hb)
                have HE2 := Lib.hid (HT16.out.swap.extends a b)
                clear hb HE1 HB
                go_wp2_with fail
                refine HE2.out.mono ?_
                rintro e w17 ⟨rfl, hb⟩
                have HT17 := Lib.hid (HT16.out.next hb)
                have HP1 := Lib.hid (HT17.out.same hal2 hbl2)
                rw [G2.out.ent a hal, G2.out.ent b hbl] at HP1
                clear hb HE2 HT16
                go_wp2_with fail
                refine HP1.out.mono ?_
                rintro e w18 ⟨rfl, hb⟩
                have HT18 := Lib.hid (HT17.out.next hb)
                have HP2 := Lib.hid (HT18.out.swap.same hal hbl)
                clear hb HP1 HT17
                go_wp2_with fail
                refine HP2.out.mono ?_
                rintro e w19 ⟨rfl, hb⟩
                have HT19 := Lib.hid (HT18.out.next hb)
                clear hb HP2 HT18
                go_wp2
                go_roundg (m.length - (b + 1))
                case measure => have := hb0.out; omega
                case rel => exact ⟨b + 1, Lib.hid (by omega), by go_num, HT19⟩
              · go_wp2
                go_roundg (m.length - (a + 1))
                case measure => have := ha.out; omega
                case rel => exact ⟨a + 1, Lib.hid (by omega), by go_num, HB⟩
          · go_wp2
            go_ret
            exact ⟨rfl, HBB.out.trans (HB.out.below.mono HBB.out.size)⟩
      · have HM2 : Hid (m2 = m ∧ defN m d = 0) := Lib.hid (by
          rcases HMM.out with h | h
          · exact absurd h.1 hde
          · exact h.2)
        have hdn := HM2.out.2
        have HLN2 := Lib.hid HT.out.len
        have HN1 := Lib.hid (HT.out.byName d.name HP1.out)
        have HN2 := Lib.hid (HT.out.swap.byName d.name HP1.out)
        rw [HM2.out.1] at HLN2 HN1
        have hde' : (defE m d != 0) = true := by simpa using hde
        rw [hdn]
        clear hde
        go_wp2_with fail
        refine HN1.out.mono ?_
        rintro e _ ⟨rfl, rfl⟩
        go_wp2_with fail
        refine HN2.out.mono ?_
        rintro e _ ⟨rfl, rfl⟩
        go_wp2_with fail
        refine HLN2.out.mono ?_
        rintro e _ ⟨rfl, rfl⟩
        clear HLN2 HN1 HN2 y0
        go_wp2_with fail
        go_loopg [15] m.length (fun gk u wr => ∃ a : Nat, Hid (a + gk = m.length) ∧ u = .int .i64 a ∧ Hid (Two bw bv wb wr m2 m))
        case atStart => exact ⟨0, Lib.hid (Nat.zero_add _), rfl, HT⟩
        case round =>
          clear HT
          obtain ⟨a, ha, rfl, HB⟩ := hrel
          by_cases hal : a < m.length
          · have hal' : (a : Int) < (m.length : Int) := by omega
            have hal2 : a < m2.length := by have := G2.out.len; omega
            have HC1 := Lib.hid (HB.out.class hal2)
            rw [G2.out.ent a hal] at HC1
            go_wp2_with fail
            refine HC1.out.mono ?_
            rintro e w5 ⟨cs1, rfl, hcl, hb⟩
            have hcl' := hcl
            obtain ⟨iv, mv, rfl, _⟩ := hcl'
            obtain ⟨ja, jc, rfl, _⟩ := (ClsIs.shape hcl).1
            obtain ⟨na, nc, rfl, _⟩ := (ClsIs.shape hcl).2
            have HAL : Hid (Below w5.heap.size w5 (w5.alloc (.cells #[.string m[a].c.name, .string m[a].c.super, .slice ja m[a].c.ifaces.length jc, .int .i64 m[a].c.flags, .int .i64 m[a].c.loader, .slice na m[a].c.meths.length nc] 32))) := Lib.hid ((Below.refl _ _).alloc (Nat.le_refl _) _)
            have HXB : Hid (∀ w', Below (w5.alloc (.cells #[.string m[a].c.name, .string m[a].c.super, .slice ja m[a].c.ifaces.length jc, .int .i64 m[a].c.flags, .int .i64 m[a].c.loader, .slice na m[a].c.meths.length nc] 32)).heap.size (w5.alloc (.cells #[.string m[a].c.name, .string m[a].c.super, .slice ja m[a].c.ifaces.length jc, .int .i64 m[a].c.flags, .int .i64 m[a].c.loader, .slice na m[a].c.meths.length nc] 32)) w' → w'.cell? ⟨w5.heap.size, 0, none⟩ = some (.string m[a].c.name) ∧ w'.cell? ⟨w5.heap.size, 1, none⟩ = some (.string m[a].c.super) ∧ w'.cell? ⟨w5.heap.size, 2, none⟩ = some (.slice ja m[a].c.ifaces.length jc) ∧ w'.cell? ⟨w5.heap.size, 3, none⟩ = some (.int .i64 m[a].c.flags) ∧ w'.cell? ⟨w5.heap.size, 4, none⟩ = some (.int .i64 m[a].c.loader) ∧ w'.cell? ⟨w5.heap.size, 5, none⟩ = some (.slice na m[a].c.meths.length nc)) := Lib.hid fun w' hb =>
              ⟨below_cell' hb (World.cell?_alloc_new ..), below_cell' hb (World.cell?_alloc_new ..), below_cell' hb (World.cell?_alloc_new ..), below_cell' hb (World.cell?_alloc_new ..), below_cell' hb (World.cell?_alloc_new ..), below_cell' hb (World.cell?_alloc_new ..)⟩
            have HT6 := Lib.hid ((HB.out.next hb).next HAL.out)
            have HX6 := Lib.hid (hcl.next HAL.out)
            have HC2 := Lib.hid (HT6.out.swap.class hal)
            clear hb hcl HC1 HB
            go_wp2_with fail
            generalize hwx : (w5.alloc (.cells #[.string m[a].c.name, .string m[a].c.super, .slice ja m[a].c.ifaces.length jc, .int .i64 m[a].c.flags, .int .i64 m[a].c.loader, .slice na m[a].c.meths.length nc] 32)) = w6 at HT6 HX6 HC2 HXB HAL
            clear hwx HAL
            generalize w5.heap.size = qx at HXB
            refine HC2.out.mono ?_
            rintro e w7 ⟨cs2, rfl, hcl, hb⟩
            have hcl' := hcl
            obtain ⟨iv, mv, rfl, _⟩ := hcl'
            obtain ⟨ka, kc, rfl, _⟩ := (ClsIs.shape hcl).1
            obtain ⟨la, lc, rfl, _⟩ := (ClsIs.shape hcl).2
            have HAL : Hid (Below w7.heap.size w7 (w7.alloc (.cells #[.string m[a].c.name, .string m[a].c.super, .slice ka m[a].c.ifaces.length kc, .int .i64 m[a].c.flags, .int .i64 m[a].c.loader, .slice la m[a].c.meths.length lc] 32))) := Lib.hid ((Below.refl _ _).alloc (Nat.le_refl _) _)
            have HYB : Hid (∀ w', Below (w7.alloc (.cells #[.string m[a].c.name, .string m[a].c.super, .slice ka m[a].c.ifaces.length kc, .int .i64 m[a].c.flags, .int .i64 m[a].c.loader, .slice la m[a].c.meths.length lc] 32)).heap.size (w7.alloc (.cells #[.string m[a].c.name, .string m[a].c.super, .slice ka m[a].c.ifaces.length kc, .int .i64 m[a].c.flags, .int .i64 m[a].c.loader, .slice la m[a].c.meths.length lc] 32)) w' → w'.cell? ⟨w7.heap.size, 0, none⟩ = some (.string m[a].c.name) ∧ w'.cell? ⟨w7.heap.size, 1, none⟩ = some (.string m[a].c.super) ∧ w'.cell? ⟨w7.heap.size, 2, none⟩ = some (.slice ka m[a].c.ifaces.length kc) ∧ w'.cell? ⟨w7.heap.size, 3, none⟩ = some (.int .i64 m[a].c.flags) ∧ w'.cell? ⟨w7.heap.size, 4, none⟩ = some (.int .i64 m[a].c.loader) ∧ w'.cell? ⟨w7.heap.size, 5, none⟩ = some (.slice la m[a].c.meths.length lc)) := Lib.hid fun w' hb =>
              ⟨below_cell' hb (World.cell?_alloc_new ..), below_cell' hb (World.cell?_alloc_new ..), below_cell' hb (World.cell?_alloc_new ..), below_cell' hb (World.cell?_alloc_new ..), below_cell' hb (World.cell?_alloc_new ..), below_cell' hb (World.cell?_alloc_new ..)⟩
            have HB8 := Lib.hid (hb.trans (HAL.out.mono hb.size))
            have HT8 := Lib.hid (HT6.out.next HB8.out)
            have HX8 := Lib.hid (HX6.out.next HB8.out)
            have HY8 := Lib.hid (hcl.next HAL.out)
            have HP1 := Lib.hid (HT8.out.chain hal2)
            rw [G2.out.chn a hal] at HP1
            clear hb hcl HC2 HT6 HX6
            go_wp2_with fail
            generalize hwx : (w7.alloc (.cells #[.string m[a].c.name, .string m[a].c.super, .slice ka m[a].c.ifaces.length kc, .int .i64 m[a].c.flags, .int .i64 m[a].c.loader, .slice la m[a].c.meths.length lc] 32)) = w8 at HB8 HT8 HX8 HY8 HYB HP1 HAL
            clear hwx HAL
            generalize w7.heap.size = qy at HYB
            refine HP1.out.mono ?_
            rintro e w9 ⟨ap, cp1, rfl, hp, hb⟩
            have HP9 := Lib.hid hp
            have HT9 := Lib.hid (HT8.out.next hb)
            have HL9 := Lib.hid hb
            have HQ1 := Lib.hid (HT9.out.swap.chain hal)
            clear hp hb HP1 HT8
            go_wp2_with fail
            refine HQ1.out.mono ?_
            rintro e w10 ⟨aq, cq1, rfl, hp, hb⟩
            have HP10 := Lib.hid (HP9.out.next hb)
            have HQ10 := Lib.hid hp
            have HT10 := Lib.hid (HT9.out.next hb)
            have HL10 := Lib.hid (HL9.out.trans (hb.mono HL9.out.size))
            have HR1 := Lib.hid (HT10.out.closure hal2)
            rw [G2.out.cls a hal] at HR1
            clear hp hb HQ1 HT9 HL9 HP9
            go_wp2_with fail
            refine HR1.out.mono ?_
            rintro e w11 ⟨ar, cr1, rfl, hp, hb⟩
            have HP11 := Lib.hid (HP10.out.next hb)
            have HQ11 := Lib.hid (HQ10.out.next hb)
            have HR11 := Lib.hid hp
            have HT11 := Lib.hid (HT10.out.next hb)
            have HL11 := Lib.hid (HL10.out.trans (hb.mono HL10.out.size))
            have HS1 := Lib.hid (HT11.out.swap.closure hal)
            clear hp hb HR1 HT10 HL10 HP10 HQ10
            go_wp2_with fail
            refine HS1.out.mono ?_
            rintro e w12 ⟨as1, cs1', rfl, hp, hb⟩
            have HP12 := Lib.hid (HP11.out.next hb)
            have HQ12 := Lib.hid (HQ11.out.next hb)
            have HR12 := Lib.hid (HR11.out.next hb)
            have HS12 := Lib.hid hp
            have HT12 := Lib.hid (HT11.out.next hb)
            have HL12 := Lib.hid (HL11.out.trans (hb.mono HL11.out.size))
            have HX12 := Lib.hid (HX8.out.next HL12.out)
            have HY12 := Lib.hid (HY8.out.next HL12.out)
            have HSM := Lib.hid (RCls HX12.out HY12.out (fun _ h => h) (fun _ h => h))
            obtain ⟨x0, x1, x2, x3, x4, x5⟩ := HXB.out w12 (HB8.out.trans (HL12.out.mono HB8.out.size))
            obtain ⟨y0, y1, y2, y3, y4, y5⟩ := HYB.out w12 HL12.out
            clear hp hb HS1 HT11 HL11 HP11 HQ11 HR11 HX8 HY8 HB8 HXB HYB
            go_wp2_with fail
            refine HSM.out.mono ?_
            rintro e w13 ⟨rfl, hb⟩
            have HT13 := Lib.hid (HT12.out.next hb)
            have HR13 := Lib.hid (HR12.out.next hb)
            have HS13 := Lib.hid (HS12.out.next hb)
            have HN1 := Lib.hid (RSame (HP12.out.next hb) (HQ12.out.next hb))
            rw [decide_eq_true rfl] at HN1
            clear hb x0 x1 x2 x3 x4 x5 y0 y1 y2 y3 y4 y5 HSM HX12 HY12 HP12 HQ12 HR12 HS12 HT12 HL12
            go_wp2_with fail
            refine HN1.out.mono ?_
            rintro e w14 ⟨rfl, hb⟩
            have HT14 := Lib.hid (HT13.out.next hb)
            have HN2 := Lib.hid (RSame (HR13.out.next hb) (HS13.out.next hb))
            rw [decide_eq_true rfl] at HN2
            clear hb HN1 HT13 HR13 HS13
            go_wp2_with fail
            refine HN2.out.mono ?_
            rintro e w15 ⟨rfl, hb⟩
            have HT15 := Lib.hid (HT14.out.next hb)
            clear hb HN2 HT14
            go_wp2_with fail
            go_loopg [28] m.length (fun gk u wr => ∃ b : Nat, Hid (b + gk = m.length) ∧ u = .int .i64 b ∧ Hid (Two bw bv wb wr m2 m))
            case atStart => exact ⟨0, Lib.hid (Nat.zero_add _), rfl, HT15⟩
            case round =>
              clear HT15
              obtain ⟨b, hb0, rfl, HB⟩ := hrel
              by_cases hbl : b < m.length
              · have hbl' : (b : Int) < (m.length : Int) := by omega
                have hbl2 : b < m2.length := by have := G2.out.len; omega
                have HE1 := Lib.hid (HB.out.extends a b)
                rw [G2.out.ext a b hal hbl] at HE1
                go_wp2_with fail
                refine HE1.out.mono ?_
                rintro e w16 ⟨rfl, hb⟩
                have HT16 := Lib.hid (HB.out.next hb)
                have HE2 := Lib.hid (HT16.out.swap.extends a b)
                clear hb HE1 HB
                go_wp2_with fail
                refine HE2.out.mono ?_
                rintro e w17 ⟨rfl, hb⟩
                have HT17 := Lib.hid (HT16.out.next hb)
                have HP1 := Lib.hid (HT17.out.same hal2 hbl2)
                rw [G2.out.ent a hal, G2.out.ent b hbl] at HP1
                clear hb HE2 HT16
                go_wp2_with fail
                refine HP1.out.mono ?_
                rintro e w18 ⟨rfl, hb⟩
                have HT18 := Lib.hid (HT17.out.next hb)
                have HP2 := Lib.hid (HT18.out.swap.same hal hbl)
                clear hb HP1 HT17
                go_wp2_with fail
                refine HP2.out.mono ?_
                rintro e w19 ⟨rfl, hb⟩
                have HT19 := Lib.hid (HT18.out.next hb)
                clear hb HP2 HT18
                go_wp2
                go_roundg (m.length - (b + 1))
                case measure => have := hb0.out; omega
                case rel => exact ⟨b + 1, Lib.hid (by omega), by go_num, HT19⟩
              · go_wp2
                go_roundg (m.length - (a + 1))
                case measure => have := ha.out; omega
                case rel => exact ⟨a + 1, Lib.hid (by omega), by go_num, HB⟩
          · go_wp2
            go_ret
            exact ⟨rfl, HBB.out.trans (HB.out.below.mono HBB.out.size)⟩
end Go.Proofs.YtmpkdgankficeaaDoor.Hi
