/- VtableGrows: the walk. -/
import Derived.Test.YtipinmbpdgjalaaGreatDoorJo
set_option maxRecDepth 100000
set_option maxHeartbeats 8000000
set_option linter.unusedVariables false
set_option linter.unusedSimpArgs false
namespace Go.Proofs.YtipinmbpdgjalaaGreatDoor.Hi
open Go.RowKit Go.Shelf Go.Sort Bs

theorem SlotSl.carry {S : Nat → Prop} {w w' : World} {v : Value} {xs : List Slt} (h : SlotSl S w v xs) (ha : Alike S w w') : SlotSl S w' v xs := h.alike ha fun _ _ h => h
theorem RSlots {S S' : Nat → Prop} {w : World} {a a' : Option Addr} {c c' : Nat} {xs : List Slt} (h : SlotSl S w (.slice a xs.length c) xs) (h' : SlotSl S' w (.slice a' xs.length c') xs) (hS : ∀ k, S k → k < w.heap.size) (hS' : ∀ k, S' k → k < w.heap.size) :
    Calls Tryz.prog 17 #[.slice a xs.length c, .slice a' xs.length c'] w fun e w' => e = .returned (.bool true) ∧ Below w.heap.size w w' := by
  have HX := Lib.hid h
  have HY := Lib.hid h'
  have HS := Lib.hid (And.intro hS hS')
  have hb : xs.length * 32 ≤ 140737488355328 := by obtain ⟨_, _, _, _, h, _⟩ := h; exact h
  clear h h' hS hS'
  go_enter Tryz.func17, Tryz.ntmps17
  go_wp2_with fail
  go_loopg [5] xs.length (fun gk u wr => ∃ k : Nat, Hid (k + gk = xs.length) ∧ u = .int .i64 k ∧ Hid (Below w.heap.size w wr))
  case atStart => exact ⟨0, Lib.hid (Nat.zero_add _), rfl, Lib.hid (Below.refl _ _)⟩
  case round =>
    obtain ⟨k, hk, rfl, hw⟩ := hrel
    by_cases hlt : k < xs.length
    · have hlt' : (k : Int) < (xs.length : Int) := by omega
      obtain ⟨b, o, rfl, _, g0, g1, g2, g3⟩ := SlotSl.elem (HX.out.carry (Alike.of_below hw.out HS.out.1)) hlt
      obtain ⟨b', o', rfl, _, f0, f1, f2, f3⟩ := SlotSl.elem (HY.out.carry (Alike.of_below hw.out HS.out.2)) hlt
      generalize xs[k] = x at g0 g1 g2 g3 f0 f1 f2 f3
      have k0 := cell_regrown g0
      have k1 := cell_regrown g1
      have k2 := cell_regrown g2
      have k3 := cell_regrown g3
      have l0 := cell_regrown f0
      have l1 := cell_regrown f1
      have l2 := cell_regrown f2
      have l3 := cell_regrown f3
      have cR : ∀ a b d os, Calls Tryz.prog 13 #[.agg #[.int .i64 a, .int .i64 b], .agg #[.int .i64 a, .int .i64 b]] (grow (redrawn wr d) os) fun e w'' => e = .returned (.bool true) ∧ ∃ p : Regrown, w'' = grow (redrawn wr p.d) p.os := fun a b d os => Calls.regrown_of (by have := RID a b a b (grow (redrawn wr d) os); rw [beq_self_eq_true, beq_self_eq_true] at this; exact this)
      clear g0 g1 g2 g3 f0 f1 f2 f3
      go_wp2_with fail
      go_cut [42] from 17 to 41 (fun s42 wy => Hid (s42 = .bool false ∧ Below wr.heap.size wr wy))
      case first =>
        refine wp_region_quiet_below (by kernel_rfl) (by kernel_rfl) ?_
        repeat (with_reducible refine wpQuiet_step (fun K hK => ?_); go_simp; first | (with_reducible refine hK _ ?_; clear hK K) | (apply Exists.intro; refine ⟨fun _ => ?_, hK _ ?_⟩; (go_at_call 13; exact cR _ _ _ _); clear hK K))
        with_reducible refine wpQuiet_nil ?_
        intro _ hw'
        obtain ⟨⟨dq, osq⟩, hw''⟩ := hw'
        subst hw''
        have HB := Lib.hid (below_regrown wr dq osq)
        clear cR k0 k1 k2 k3 l0 l1 l2 l3
        go_wp2_with fail
        go_meet
        exact Lib.hid ⟨rfl, HB.out⟩
      case rest =>
        obtain ⟨rfl, hbc⟩ := hcut.out
        have HB1 := Lib.hid (hw.out.trans (hbc.mono hw.out.size))
        clear hcut hbc cR k0 k1 k2 k3 l0 l1 l2 l3
        rename_i hK0
        with_reducible refine hK0 _ _ ?_
        clear hK0
        go_wp2
        go_roundg (xs.length - (k + 1))
        case measure => have := hk.out; omega
        case rel => exact ⟨k + 1, Lib.hid (by have := hk.out; omega), by go_num, HB1⟩
    · have hlt' : ¬ (k : Int) < (xs.length : Int) := by omega
      clear hk
      go_wp2
      go_ret
      exact ⟨rfl, hw.out⟩

theorem Built.laterV {B bw : Nat} {w0 w2 w4 w5 : World} {m : List EntM} (h : Built B bw w0 w2 m) (hb : Below w2.heap.size w2 w4) (c : ClsM) (hw' : HW (fun k => (B ≤ k ∧ k < w2.heap.size) ∨ (w4.heap.size ≤ k ∧ k < w5.heap.size)) bw w5 (defM m c)) (hc : Chg (fun k => B ≤ k ∧ k < w2.heap.size) w4 w5) :
    Built B bw w0 w5 (defM m c) where
  hw := hw'.mono fun k hk => by
    have := hc.size
    have := hb.size
    have := h.le
    rcases hk with hk | hk
    · exact ⟨hk.1, by omega⟩
    · exact ⟨by omega, hk.2⟩
  ord := defM_ord h.wf h.ord c
  below := (h.below.trans (hb.mono h.below.size)).trans (hc.below (Nat.le_trans h.below.size hb.size) fun k hk hf => by have := h.le; omega)
  le := ⟨h.le.1, Nat.le_trans h.le.2 (Nat.le_trans hb.size hc.size)⟩

theorem VtableGrows (a : Option Addr) (cp : Nat) (xs : List ClsM) (cs : List Value) (c : ClsM) (d : Int) (hwd : (Lit.int .i64 d).wf = true) (w : World) (hx : ClsSl (fun b => b < w.heap.size) w (.slice a xs.length cp) xs) (hcl : ClsIs (fun b => b < w.heap.size) w cs c) (he : Lf.Env w) :
    Calls Tryz.prog 3 #[.slice a xs.length cp, .agg cs.toArray, .int .i64 d] w fun e w' => e = .returned (.bool true) ∧ Below w.heap.size w w' := by
  have HEW := Lib.hid he
  have HCL0 := Lib.hid hcl
  obtain ⟨iv, mv, rfl, p1, _, hi, _, _, hm⟩ := hcl
  obtain ⟨ia, ic, rfl, _⟩ := id hi
  obtain ⟨ma, mc, rfl, _⟩ := id hm
  rw [show [Value.string c.name, .string c.super, .slice ia c.ifaces.length ic, .int .i64 c.flags, .int .i64 c.loader, .slice ma c.meths.length mc].toArray = #[Value.string c.name, .string c.super, .slice ia c.ifaces.length ic, .int .i64 c.flags, .int .i64 c.loader, .slice ma c.meths.length mc] from rfl]
  obtain ⟨wa, hwa⟩ : ∃ wa, (w.alloc (.cells #[.string c.name, .string c.super, .slice ia c.ifaces.length ic, .int .i64 c.flags, .int .i64 c.loader, .slice ma c.meths.length mc] 26)) = wa := ⟨_, rfl⟩
  have hba : Below w.heap.size w wa := by rw [← hwa]; exact (Below.refl _ _).alloc (Nat.le_refl _) _
  have hbox : wa.cell? ⟨w.heap.size, 0, none⟩ = some (.string c.name) ∧ wa.cell? ⟨w.heap.size, 1, none⟩ = some (.string c.super) ∧ wa.cell? ⟨w.heap.size, 2, none⟩ = some (.slice ia c.ifaces.length ic) ∧ wa.cell? ⟨w.heap.size, 3, none⟩ = some (.int .i64 c.flags) ∧ wa.cell? ⟨w.heap.size, 4, none⟩ = some (.int .i64 c.loader) ∧ wa.cell? ⟨w.heap.size, 5, none⟩ = some (.slice ma c.meths.length mc) := by
    rw [← hwa]
    exact ⟨World.cell?_alloc_new .., World.cell?_alloc_new .., World.cell?_alloc_new .., World.cell?_alloc_new .., World.cell?_alloc_new .., World.cell?_alloc_new ..⟩
  have HBOX := Lib.hid hbox
  have HX := Lib.hid (hx.nextO hba)
  have HE := Lib.hid (he.below hba)
  have HCL := Lib.hid (HCL0.out.next hba)
  have HB0 := Lib.hid hba
  have HAW := Lib.hid (awake13 wa)
  clear hx he hwd hba hbox hi hm p1 HCL0
  go_enter Tryz.func3, Tryz.ntmps3
  go_wp2_with fail
  try rw [hwa]
  clear hwa
  refine HAW.out.mono ?_
  rintro e w1 ⟨rfl, hb1⟩
  have HB1 := Lib.hid (HB0.out.trans (hb1.mono HB0.out.size))
  have HBU := Lib.hid (built13 a cp xs w1 (HX.out.nextO hb1) (HE.out.below hb1))
  have HE1 := Lib.hid (HE.out.below hb1)
  have HCL1 := Lib.hid (HCL.out.next hb1)
  have HBOX1 := Lib.hid (And.intro (below_cell' hb1 HBOX.out.1) (And.intro (below_cell' hb1 HBOX.out.2.1) (And.intro (below_cell' hb1 HBOX.out.2.2.1) (And.intro (below_cell' hb1 HBOX.out.2.2.2.1) (And.intro (below_cell' hb1 HBOX.out.2.2.2.2.1) (below_cell' hb1 HBOX.out.2.2.2.2.2))))))
  clear hb1 HB0 HX HE HAW HCL HBOX
  go_wp2_with fail
  refine HBU.out.mono ?_
  rintro e w2 ⟨rfl, h2⟩
  have H2 := Lib.hid h2
  have hb12 := h2.below
  have HE2 := Lib.hid (HE1.out.below hb12)
  have HCL2 := Lib.hid (HCL1.out.next hb12)
  have HSZ : Hid (w.heap.size < w1.heap.size) := Lib.hid (World.block_lt_of_cell? _ _ HBOX1.out.1)
  have HBOX2 := Lib.hid (And.intro (below_cell' hb12 HBOX1.out.1) (And.intro (below_cell' hb12 HBOX1.out.2.1) (And.intro (below_cell' hb12 HBOX1.out.2.2.1) (And.intro (below_cell' hb12 HBOX1.out.2.2.2.1) (And.intro (below_cell' hb12 HBOX1.out.2.2.2.2.1) (below_cell' hb12 HBOX1.out.2.2.2.2.2))))))
  have HB2 := Lib.hid (HB1.out.trans (hb12.mono HB1.out.size))
  have HML := Lib.hid (mlA_defs xs)
  clear h2 hb12 HBU HB1 HE1 HCL1 HBOX1
  generalize w1.heap.size = B at H2 HSZ
  generalize defs xs = m at H2 HML
  have HWF := Lib.hid H2.out.wf
  have HO := Lib.hid H2.out.ord
  have HB := VBuild H2.out HML.out d
  cases hed : entAt m d with
  | none =>
    rw [show bldM m d = ([], 3) by unfold bldM; rw [hed]] at HB
    have HBB := Lib.hid HB
    clear HB hed HBOX2 HCL2
    go_wp2_with fail
    refine HBB.out.mono ?_
    rintro _ w3 ⟨v, rfl, hrow, hb⟩
    obtain ⟨ra, rc, rfl⟩ := own_slice hrow
    have HB3 := Lib.hid (HB2.out.trans (hb.mono HB2.out.size))
    clear hb HBB hrow
    go_wp2
    go_ret
    exact ⟨rfl, HB3.out⟩
  | some ee =>
    obtain ⟨dd, rfl, hdd, _⟩ := entAt_some hed
    cases hif : isIfaceM m (dd : Int) with
    | true =>
      rw [show bldM m (dd : Int) = ([], 23) by unfold bldM; rw [hed]; simp only; rw [if_pos hif]] at HB
      have HBB := Lib.hid HB
      clear HB hed HBOX2 HCL2 hif
      go_wp2_with fail
      refine HBB.out.mono ?_
      rintro _ w3 ⟨v, rfl, hrow, hb⟩
      obtain ⟨ra, rc, rfl⟩ := own_slice hrow
      have HB3 := Lib.hid (HB2.out.trans (hb.mono HB2.out.size))
      clear hb HBB hrow
      go_wp2
      go_ret
      exact ⟨rfl, HB3.out⟩
    | false =>
      rw [bld_ok hdd hif] at HB
      simp only at HB
      have HBB := Lib.hid HB
      have HTL := Lib.hid (tabM_len HWF.out HML.out hdd)
      obtain ⟨hl1, hl2, hl3⟩ := grow_law HWF.out HO.out hdd hif
      have HLT : Hid (bldM (defM m c) (dd : Int) = (tabM m dd, 0)) := Lib.hid (bld_later HWF.out c hdd hif)
      have HSUP := Lib.hid (superM_cases HWF.out HO.out hdd)
      obtain ⟨T, hT⟩ : ∃ T, tabM m dd = T := ⟨_, rfl⟩
      rw [hT] at HBB HTL HLT
      have HL1 : Hid (∀ q : Nat, superM m (dd : Int) = ((q : Int), 0) → ∃ (hq : q < m.length), isIfaceM m (q : Int) = false ∧ (tabM m q).length ≤ T.length ∧ ∀ i (h : i < (tabM m q).length) (h' : i < T.length), (tabM m q)[i].1 = T[i].1) := Lib.hid (by subst hT; exact hl1)
      have HL2 : Hid (∀ i (h : i < T.length), ovR m T[i].2 T[i].1 = (true, 0) ∧ extM m dd T[i].2.1 = true) := Lib.hid (by subst hT; exact hl2)
      have HL3 : Hid (∀ i j (h : i < T.length) (h' : j < T.length), j < i → T[i].1 ≠ T[j].1) := Lib.hid (by subst hT; exact hl3)
      clear HB hed hif hl1 hl2 hl3 hT
      go_wp2_with fail
      refine HBB.out.mono ?_
      rintro _ w3 ⟨v, rfl, hrow, hb⟩
      obtain ⟨ra, rc, rfl⟩ := own_slice hrow
      have HS3 : Hid (SlotSl (fun b => w2.heap.size ≤ b ∧ b < w3.heap.size) w3 (.slice ra T.length rc) T) := Lib.hid (slotSl_row hrow (by have := HTL.out; omega))
      have HB3 := Lib.hid hb
      have HSP := Lib.hid ((H2.out.next hb).super (dd : Int))
      clear hb hrow HBB
      go_wp2_with fail
      refine HSP.out.mono ?_
      rintro e _ ⟨rfl, rfl⟩
      clear HSP
      obtain ⟨⟨sq, se⟩, hsq⟩ : ∃ R, superM m (dd : Int) = R := ⟨_, rfl⟩
      rw [hsq] at HSUP HL1 ⊢
      clear hsq
      go_upto_if 51 with fail
      go_cut [12, 13, 14] from 50 to 84 (fun s12 s13 s14 wy => Hid (Below w3.heap.size w3 wy))
      case first =>
        rcases HSUP.out with h | ⟨q, h⟩
        · injection h with h1 h2
          subst h1; subst h2
          clear HL1 HL2 HL3 HLT HSUP
          go_wp2
          go_meet
          exact Lib.hid (Below.refl _ _)
        · injection h with h1 h2
          subst h1; subst h2
          obtain ⟨hq, hqi, hql, hqr⟩ := HL1.out q rfl
          have HQR := Lib.hid hqr
          have HQL := Lib.hid (tabM_len HWF.out HML.out hq)
          have HBQ := VBuild (H2.out.next HB3.out) HML.out (q : Int)
          rw [bld_ok hq hqi] at HBQ
          simp only at HBQ
          have HBB := Lib.hid HBQ
          obtain ⟨T0, hT0⟩ : ∃ T0, tabM m q = T0 := ⟨_, rfl⟩
          have HQ : Hid (∀ i (h : i < T0.length) (h' : i < T.length), T0[i].1 = T[i].1) := Lib.hid (by subst hT0; exact hqr)
          rw [hT0] at HBB hql HQL
          have hql' : (T0.length : Int) ≤ (T.length : Int) := by omega
          have hdq : decide (T.length < T0.length) = false := decide_eq_false (by omega)
          clear hqr HBQ HL1 HL2 HL3 HLT HSUP hqi hT0 HQR
          go_wp2_with fail
          refine HBB.out.mono ?_
          rintro _ w4 ⟨v, rfl, hrow, hb⟩
          obtain ⟨ra0, rc0, rfl⟩ := own_slice hrow
          have HS4 : Hid (SlotSl (fun b => b < w4.heap.size) w4 (.slice ra0 T0.length rc0) T0) := Lib.hid (Sl.mono (slotSl_row hrow (by have := HQL.out; omega)) (fun b hb => hb.2) fun _ _ h => h)
          have HS5 := Lib.hid (HS3.out.carry (Alike.of_below hb fun k h => h.2))
          have HB4 := Lib.hid hb
          have hq0 : (T0.length : Int) ≤ 12000 := by have := HQL.out; omega
          clear hb hrow HBB
          go_wp2_with fail
          try rw [hdq]
          try rw [hdq]
          go_loopg [14] T0.length (fun gk u wr => ∃ k : Nat, Hid (k + gk = T0.length) ∧ u = .int .i64 k ∧ Hid (Below w4.heap.size w4 wr))
          case atStart => exact ⟨0, Lib.hid (Nat.zero_add _), rfl, Lib.hid (Below.refl _ _)⟩
          case round =>
            obtain ⟨k, hk, rfl, HBR⟩ := hrel
            by_cases hkt : k < T0.length
            · have hkt' : (k : Int) < (T0.length : Int) := by omega
              have hkT : k < T.length := by omega
              obtain ⟨b, o, rfl, _, g0, g1, _, _⟩ := SlotSl.elem (HS4.out.carry (Alike.of_below HBR.out fun _ h => h)) hkt
              obtain ⟨b', o', rfl, _, f0, f1, _, _⟩ := SlotSl.elem (HS5.out.carry (Alike.of_below HBR.out fun _ h => Nat.lt_of_lt_of_le h.2 HB4.out.size)) hkT
              rw [HQ.out k hkt hkT] at g0 g1
              generalize T[k].1 = z at g0 g1 f0 f1
              have k0 := cell_regrown g0
              have k1 := cell_regrown g1
              have l0 := cell_regrown f0
              have l1 := cell_regrown f1
              have cR : ∀ a b d os, Calls Tryz.prog 13 #[.agg #[.int .i64 a, .int .i64 b], .agg #[.int .i64 a, .int .i64 b]] (grow (redrawn wr d) os) fun e w'' => e = .returned (.bool true) ∧ ∃ p : Regrown, w'' = grow (redrawn wr p.d) p.os := fun a b d os => Calls.regrown_of (by have := RID a b a b (grow (redrawn wr d) os); rw [beq_self_eq_true, beq_self_eq_true] at this; exact this)
              clear g0 g1 f0 f1
              go_wp2_with fail
              go_cut [84] from 73 to 83 (fun s84 wy => Hid (s84 = .bool false ∧ Below wr.heap.size wr wy))
              case first =>
                refine wp_region_quiet_below (by kernel_rfl) (by kernel_rfl) ?_
                repeat (with_reducible refine wpQuiet_step (fun K hK => ?_); go_simp; first | (with_reducible refine hK _ ?_; clear hK K) | (apply Exists.intro; refine ⟨fun _ => ?_, hK _ ?_⟩; (go_at_call 13; exact cR _ _ _ _); clear hK K))
                with_reducible refine wpQuiet_nil ?_
                intro _ hw'
                obtain ⟨⟨dq, osq⟩, hw''⟩ := hw'
                subst hw''
                have HB := Lib.hid (below_regrown wr dq osq)
                clear cR k0 k1 l0 l1
                go_wp2_with fail
                go_meet
                exact Lib.hid ⟨rfl, HB.out⟩
              case rest =>
                obtain ⟨rfl, hbc⟩ := hcut.out
                have HB1 := Lib.hid (HBR.out.trans (hbc.mono HBR.out.size))
                clear hcut hbc cR k0 k1 l0 l1
                rename_i hK0
                with_reducible refine hK0 _ _ ?_
                clear hK0
                go_wp2
                go_roundg (T0.length - (k + 1))
                case measure => have := hk.out; omega
                case rel => exact ⟨k + 1, Lib.hid (by have := hk.out; omega), by go_num, HB1⟩
            · have hkt' : ¬ (k : Int) < (T0.length : Int) := by omega
              have HBE := Lib.hid (HB4.out.trans (HBR.out.mono HB4.out.size))
              clear hk HQ
              go_wp2
              go_meet
              exact HBE
      case rest =>
        obtain ⟨wd, hwd⟩ : ∃ wd, wd = wc := ⟨_, rfl⟩
        subst hwd
        have hbc := hcut.out
        have HBC := Lib.hid (HB3.out.trans (hbc.mono HB3.out.size))
        have HSC := Lib.hid (HS3.out.carry (Alike.of_below hbc fun k h => h.2))
        have HZC : Hid (w2.heap.size ≤ w3.heap.size ∧ w3.heap.size ≤ wd.heap.size) := Lib.hid ⟨HB3.out.size, hbc.size⟩
        clear hcut hbc HL1 HSUP HB3 HS3
        rename_i hK0
        with_reducible refine hK0 _ _ ?_
        clear hK0
        have ht0 : (T.length : Int) ≤ 12000 := by have := HTL.out; omega
        go_wp2_with fail
        go_loopg [15] T.length (fun gk u wr => ∃ k : Nat, Hid (k + gk = T.length) ∧ u = .int .i64 k ∧ Hid (Below wd.heap.size wd wr))
        case atStart => exact ⟨0, Lib.hid (Nat.zero_add _), rfl, Lib.hid (Below.refl _ _)⟩
        case round =>
          obtain ⟨i, hk, rfl, HBR⟩ := hrel
          by_cases hit : i < T.length
          · have hit' : (i : Int) < (T.length : Int) := by omega
            obtain ⟨tb, tq, hra, _, g0, g1, g2, g3⟩ := SlotSl.elem (HSC.out.carry (Alike.of_below HBR.out fun _ h => Nat.lt_of_lt_of_le h.2 HZC.out.2)) hit
            subst hra
            have HRW := Lib.hid (HBC.out.trans (HBR.out.mono HBC.out.size))
            have HEX0 := Lib.hid (fun wy (hy : Below w2.heap.size w2 wy) => (H2.out.next hy).extends (dd : Int) T[i].2.1)
            have HNE2 : Hid (∀ j (h : j < T.length), j < i → (T[i].1.1 == T[j].1.1 && T[i].1.2 == T[j].1.2) = false) := Lib.hid (fun j h hj => by
              have := HL3.out i j hit h hj
              rw [Bool.eq_false_iff]
              intro e
              simp only [Bool.and_eq_true, beq_iff_eq] at e
              exact this (Prod.ext e.1 e.2))
            obtain ⟨hov, hext⟩ := HL2.out i hit
            rw [hext] at HEX0
            obtain ⟨⟨⟨z1, z2⟩, ⟨n1, n2⟩⟩, hz⟩ : ∃ Z, T[i] = Z := ⟨_, rfl⟩
            rw [hz] at g0 g1 g2 g3 hov HEX0
            simp only at g0 g1 g2 g3 hov HEX0
            have k0 := cell_regrown g0
            have k1 := cell_regrown g1
            have k2 := cell_regrown g2
            have k3 := cell_regrown g3
            have HG := Lib.hid (And.intro g0 (And.intro g1 g2))
            have cO : ∀ d os, Calls Tryz.prog 14 #[.pointer (some ⟨B + 1, 0, none⟩), .agg #[.int .i64 n1, .int .i64 n2], .agg #[.int .i64 z1, .int .i64 z2]] (grow (redrawn wr d) os) fun e w'' => e = .returned (.tuple #[.bool true, .int .i64 0]) ∧ ∃ p : Regrown, w'' = grow (redrawn wr p.d) p.os := fun d os => Calls.regrown_of (by
              have := OOverrides (H2.out.next (HRW.out.trans ((below_regrown wr d os).mono HRW.out.size))) ((n1, n2) : Int × Int) ((z1, z2) : Int × Int)
              rw [hov] at this
              exact this)
            clear g0 g1 g2 g3 hz hov hext
            go_wp2_with fail
            go_cut [16, 17] from 91 to 105 (fun s16 s17 wy => Hid (s16 = .bool true ∧ s17 = .int .i64 0 ∧ Below wr.heap.size wr wy))
            case first =>
              refine wp_region_quiet_below (by kernel_rfl) (by kernel_rfl) ?_
              repeat (with_reducible refine wpQuiet_step (fun K hK => ?_); go_simp; first | (with_reducible refine hK _ ?_; clear hK K) | (apply Exists.intro; refine ⟨fun _ => ?_, hK _ ?_⟩; (go_at_call 14; exact cO _ _); clear hK K))
              with_reducible refine wpQuiet_nil ?_
              intro _ hw'
              obtain ⟨⟨dq, osq⟩, hw''⟩ := hw'
              subst hw''
              have HB := Lib.hid (below_regrown wr dq osq)
              clear cO k0 k1 k2 k3
              go_wp2_with fail
              go_meet
              exact Lib.hid ⟨rfl, rfl, HB.out⟩
            case rest =>
              obtain ⟨rfl, rfl, hbd⟩ := hcut.out
              have HBD := Lib.hid (HBR.out.trans (hbd.mono HBR.out.size))
              have HDW := Lib.hid (HBC.out.trans (HBD.out.mono HBC.out.size))
              have g2 := below_cell' hbd HG.out.2.2
              have HEX := Lib.hid (HEX0.out _ HDW.out)
              clear hcut hbd cO k0 k1 k2 k3 HEX0 HRW HBR HG
              rename_i hK0
              with_reducible refine hK0 _ _ ?_
              clear hK0
              go_wp2_with fail
              refine HEX.out.mono ?_
              rintro _ w6 ⟨rfl, hb⟩
              have HB6 := Lib.hid (HBD.out.trans (hb.mono HBD.out.size))
              clear hb HEX HBD HDW g2
              go_wp2_with fail
              go_loopg [18] i (fun gj u wr => ∃ j : Nat, Hid (j + gj = i) ∧ u = .int .i64 j ∧ Hid (Below wd.heap.size wd wr))
              case atStart => exact ⟨0, Lib.hid (Nat.zero_add _), rfl, HB6⟩
              case round =>
                clear HB6
                obtain ⟨j, hj, rfl, HBR⟩ := hrel
                by_cases hji : j < i
                · have hji' : (j : Int) < (i : Int) := by omega
                  have hjt : j < T.length := by omega
                  have hjt' : (j : Int) < (T.length : Int) := by omega
                  obtain ⟨_, _, hra, _, g0, g1, _, _⟩ := SlotSl.elem (HSC.out.carry (Alike.of_below HBR.out fun _ h => Nat.lt_of_lt_of_le h.2 HZC.out.2)) hit
                  injection hra with hra
                  injection hra with hr1 hr2 hr3
                  clear hr3
                  subst hr1; subst hr2
                  obtain ⟨_, _, hra, _, f0, f1, _, _⟩ := SlotSl.elem (HSC.out.carry (Alike.of_below HBR.out fun _ h => Nat.lt_of_lt_of_le h.2 HZC.out.2)) hjt
                  injection hra with hra
                  injection hra with hr1 hr2 hr3
                  clear hr3
                  subst hr1; subst hr2
                  have HRX := Lib.hid (HNE2.out j hjt hji)
                  generalize T[i].1.1 = x1 at g0 HRX
                  generalize T[i].1.2 = x2 at g1 HRX
                  generalize T[j].1.1 = y1 at f0 HRX
                  generalize T[j].1.2 = y2 at f1 HRX
                  have k0 := cell_regrown g0
                  have k1 := cell_regrown g1
                  have l0 := cell_regrown f0
                  have l1 := cell_regrown f1
                  have cR : ∀ d os, Calls Tryz.prog 13 #[.agg #[.int .i64 x1, .int .i64 x2], .agg #[.int .i64 y1, .int .i64 y2]] (grow (redrawn wr d) os) fun e w'' => e = .returned (.bool false) ∧ ∃ p : Regrown, w'' = grow (redrawn wr p.d) p.os := fun d os => Calls.regrown_of (by have := RID x1 x2 y1 y2 (grow (redrawn wr d) os); rw [HRX.out] at this; exact this)
                  clear g0 g1 f0 f1 HRX
                  go_wp2_with fail
                  go_cut [139] from 129 to 138 (fun s139 wy => Hid (s139 = .bool false ∧ Below wr.heap.size wr wy))
                  case first =>
                    refine wp_region_quiet_below (by kernel_rfl) (by kernel_rfl) ?_
                    repeat (with_reducible refine wpQuiet_step (fun K hK => ?_); go_simp; first | (with_reducible refine hK _ ?_; clear hK K) | (apply Exists.intro; refine ⟨fun _ => ?_, hK _ ?_⟩; (go_at_call 13; exact cR _ _); clear hK K))
                    with_reducible refine wpQuiet_nil ?_
                    intro _ hw'
                    obtain ⟨⟨dq, osq⟩, hw''⟩ := hw'
                    subst hw''
                    have HB := Lib.hid (below_regrown wr dq osq)
                    clear cR k0 k1 l0 l1
                    go_wp2_with fail
                    go_meet
                    exact Lib.hid ⟨rfl, HB.out⟩
                  case rest =>
                    obtain ⟨rfl, hbd⟩ := hcut.out
                    have HB1 := Lib.hid (HBR.out.trans (hbd.mono HBR.out.size))
                    clear hcut hbd cR k0 k1 l0 l1
                    rename_i hK0
                    with_reducible refine hK0 _ _ ?_
                    clear hK0
                    go_wp2
                    go_roundg (i - (j + 1))
                    case measure => have := hj.out; omega
                    case rel => exact ⟨j + 1, Lib.hid (by have := hj.out; omega), by go_num, HB1⟩
                · have hji' : ¬ (j : Int) < (i : Int) := by omega
                  have HBE := HBR
                  clear hj
                  go_wp2
                  go_roundg (T.length - (i + 1))
                  case measure => have := hk.out; omega
                  case rel => exact ⟨i + 1, Lib.hid (by have := hk.out; omega), by go_num, HBE⟩
          · have hit' : ¬ (i : Int) < (T.length : Int) := by omega
            have hrw := HBC.out.trans (HBR.out.mono HBC.out.size)
            have HRW := Lib.hid hrw
            have s0 := below_cell' hrw HBOX2.out.1
            have s1 := below_cell' hrw HBOX2.out.2.1
            have s2 := below_cell' hrw HBOX2.out.2.2.1
            have s3 := below_cell' hrw HBOX2.out.2.2.2.1
            have s4 := below_cell' hrw HBOX2.out.2.2.2.2.1
            have s5 := below_cell' hrw HBOX2.out.2.2.2.2.2
            have HZR : Hid (w3.heap.size ≤ wr.heap.size) := Lib.hid (by have := HZC.out; have := HBR.out.size; omega)
            have HSR : Hid (SlotSl (fun b => w2.heap.size ≤ b ∧ b < w3.heap.size) wr (.slice ra T.length rc) T) := Lib.hid (HSC.out.carry (Alike.of_below HBR.out fun _ h => Nat.lt_of_lt_of_le h.2 HZC.out.2))
            have HDF := Lib.hid (Define (H2.out.hw.alike hrw.size (Alike.of_below hrw H2.out.live)) HO.out.short (HCL2.out.next hrw) (fun k hk => hk) (fun k hk => Nat.lt_of_lt_of_le hk.2 hrw.size) (HE2.out.below hrw))
            rw [show [Value.string c.name, .string c.super, .slice ia c.ifaces.length ic, .int .i64 c.flags, .int .i64 c.loader, .slice ma c.meths.length mc].toArray = #[Value.string c.name, .string c.super, .slice ia c.ifaces.length ic, .int .i64 c.flags, .int .i64 c.loader, .slice ma c.meths.length mc] from rfl] at HDF
            clear hk hrw HBC HBR HSC HZC HL2 HL3 HBOX2
            go_wp2_with fail
            refine HDF.out.mono ?_
            rintro e w5 ⟨rfl, hw5, hc5⟩
            have H5 := Lib.hid (H2.out.laterV HRW.out c hw5 hc5)
            have HS5 : Hid (SlotSl (fun b => w2.heap.size ≤ b ∧ b < w3.heap.size) w5 (.slice ra T.length rc) T) := Lib.hid (HSR.out.carry (Alike.of_chg hc5 fun k hk => ⟨by have := HZR.out; omega, fun h => by omega⟩))
            have hb5 : Below w.heap.size w w5 := (HB2.out.trans (HRW.out.mono HB2.out.size)).trans (hc5.below (Nat.le_trans HB2.out.size HRW.out.size) (fun k hk hf => by have := HSZ.out; omega))
            have HB5 := Lib.hid hb5
            have HZ5 : Hid (w3.heap.size ≤ w5.heap.size) := Lib.hid (by have := HZR.out; have := hc5.size; omega)
            have HBX := VBuild H5.out (mlA_later HML.out c) (dd : Int)
            rw [HLT.out] at HBX
            simp only at HBX
            have HBY := Lib.hid HBX
            clear hw5 hc5 hb5 HDF s0 s1 s2 s3 s4 s5 HSR HZR HBX HLT
            go_wp2_with fail
            refine HBY.out.mono ?_
            rintro _ w6 ⟨v, rfl, hrow, hb⟩
            obtain ⟨rb, rd, rfl⟩ := own_slice hrow
            have HSS := Lib.hid (RSlots (HS5.out.carry (Alike.of_below hb fun k h => by have := HZ5.out; omega)) (slotSl_row hrow (by have := HTL.out; omega)) (fun k h => by have := HZ5.out; have := hb.size; omega) (fun k h => h.2))
            have HB6 := Lib.hid (HB5.out.trans (hb.mono HB5.out.size))
            clear hb hrow HBY HS5 HB5
            go_wp2_with fail
            refine HSS.out.mono ?_
            rintro _ w7 ⟨rfl, hb⟩
            have HB7 := Lib.hid (HB6.out.trans (hb.mono HB6.out.size))
            clear hb HSS
            go_wp2
            go_ret
            exact ⟨rfl, HB7.out⟩
end Go.Proofs.YtipinmbpdgjalaaGreatDoor.Hi
