/- OverrideSeen: the walk. -/
import Derived.Test.YtmenknflabohhaaGreatDoorOtb
set_option maxRecDepth 100000
set_option maxHeartbeats 8000000
set_option linter.unusedVariables false
set_option linter.unusedSimpArgs false
namespace Go.Proofs.YtmenknflabohhaaGreatDoor.Hi
open Go.RowKit Go.Shelf Go.Sort Bs

theorem OverrideSeen (a : Option Addr) (cp : Nat) (xs : List ClsM) (r : Int) (p : Int × Int) (w : World) (hx : ClsSl (fun b => b < w.heap.size) w (.slice a xs.length cp) xs) (he : Lf.Env w) :
    Calls Tryz.prog 4 #[.slice a xs.length cp, .int .i64 r, .agg #[.int .i64 p.1, .int .i64 p.2]] w fun e w' => e = .returned (.bool true) ∧ Below w.heap.size w w' := by
  obtain ⟨wa, hwa⟩ : ∃ wa, (w.alloc (.cells #[.int .i64 p.1, .int .i64 p.2] 28)) = wa := ⟨_, rfl⟩
  have hba : Below w.heap.size w wa := by rw [← hwa]; exact (Below.refl _ _).alloc (Nat.le_refl _) _
  have p0 : wa.cell? ⟨w.heap.size, 0, none⟩ = some (.int .i64 p.1) := by rw [← hwa]; exact World.cell?_alloc_new ..
  have p1 : wa.cell? ⟨w.heap.size, 1, none⟩ = some (.int .i64 p.2) := by rw [← hwa]; exact World.cell?_alloc_new ..
  have HBA := Lib.hid hba
  have HP := Lib.hid (And.intro p0 p1)
  have HX := Lib.hid (hx.nextO hba)
  have HE := Lib.hid (he.below hba)
  have HAW := Lib.hid (awake09 wa)
  clear hx he hba p0 p1
  go_enter Tryz.func4, Tryz.ntmps4
  go_wp2_with fail
  try rw [hwa]
  clear hwa
  refine HAW.out.mono ?_
  rintro e w1 ⟨rfl, hb1⟩
  have HBU := Lib.hid (built09 a cp xs w1 (HX.out.nextO hb1) (HE.out.below hb1))
  have HB1 := Lib.hid (HBA.out.trans (hb1.mono HBA.out.size))
  have HP1 := Lib.hid (And.intro (below_cell' hb1 HP.out.1) (below_cell' hb1 HP.out.2))
  clear hb1 HX HE HAW HBA HP
  go_wp2_with fail
  refine HBU.out.mono ?_
  rintro e w2 ⟨rfl, h2⟩
  have H2 := Lib.hid h2
  have HB2 := Lib.hid (HB1.out.trans (h2.below.mono HB1.out.size))
  have p0 := below_cell' h2.below HP1.out.1
  have p1 := below_cell' h2.below HP1.out.2
  have HFL := Lib.hid (flM_defs xs)
  clear h2 HBU HB1 HP1
  generalize w1.heap.size = B at H2
  generalize defs xs = m at H2 HFL
  have HWF := Lib.hid H2.out.wf
  have HO := Lib.hid H2.out.ord
  have HM := Lib.hid (MethodAny H2.out p)
  have HP2 := Lib.hid (And.intro p0 p1)
  go_wp2_with fail
  refine HM.out.mono ?_
  rintro e w3 ⟨nm, ds, f, l, s, ad, q, c, er, rfl, g, k, hb⟩
  obtain ⟨wx, hwx⟩ : ∃ wx, (w3.alloc (.cells #[.string nm, .string ds, .int .i64 f, .int .i64 l, .int .i64 s, .slice ad q c] 45)) = wx := ⟨_, rfl⟩
  have hbx : Below w3.heap.size w3 wx := by rw [← hwx]; exact (Below.refl _ _).alloc (Nat.le_refl _) _
  have x0 : wx.cell? ⟨w3.heap.size, 0, none⟩ = some (.string nm) := by rw [← hwx]; exact World.cell?_alloc_new ..
  have x1 : wx.cell? ⟨w3.heap.size, 1, none⟩ = some (.string ds) := by rw [← hwx]; exact World.cell?_alloc_new ..
  have x2 : wx.cell? ⟨w3.heap.size, 2, none⟩ = some (.int .i64 f) := by rw [← hwx]; exact World.cell?_alloc_new ..
  have hb3 := hb.trans (hbx.mono hb.size)
  have HB3 := Lib.hid (HB2.out.trans (hb3.mono HB2.out.size))
  have HBX := Lib.hid hb3
  have G := Lib.hid g
  have K := Lib.hid k
  have HX3 := Lib.hid (And.intro x0 (And.intro x1 x2))
  have HAL := Lib.hid (OAll (H2.out.next hb3) p)
  have p0 := below_cell' hb3 HP2.out.1
  have p1 := below_cell' hb3 HP2.out.2
  have HP3 := Lib.hid (And.intro p0 p1)
  clear hb hbx hb3 g k HM HP2 HB2 x0 x1 x2
  go_wp2_with fail
  try rw [hwx]
  clear hwx
  refine HAL.out.mono ?_
  rintro e w4 ⟨aa, ac, rfl, hs, hb⟩
  have HB4 := Lib.hid (HB3.out.trans (hb.mono HB3.out.size))
  have HBX4 := Lib.hid (HBX.out.trans (hb.mono HBX.out.size))
  have p0 := below_cell' hb HP3.out.1
  have p1 := below_cell' hb HP3.out.2
  have HP4 := Lib.hid (And.intro p0 p1)
  have x0 := below_cell' hb HX3.out.1
  have x1 := below_cell' hb HX3.out.2.1
  have x2 := below_cell' hb HX3.out.2.2
  have HX4 := Lib.hid (And.intro x0 (And.intro x1 x2))
  generalize w3.heap.size = bx at x0 x1 x2 HX4 HX3
  have HS4 := Lib.hid hs
  clear hs hb HAL HX3 HP3 HBX HB3
  by_cases z : er = 0
  case neg =>
    obtain ⟨hn, rfl⟩ := K.out z
    have HA : Hid (allR m p = ([], 3)) := Lib.hid (by unfold allR; rw [hn])
    rw [HA.out]
    clear z hn K G HA HS4 x0 x1 x2 HX4 HFL HWF HO H2 HBX4 p0 p1 HP4
    go_wp2
    go_ret
    exact ⟨rfl, HB4.out⟩
  subst z
  obtain ⟨x, hxm, rfl, rfl, rfl⟩ := G.out rfl
  have HA : Hid (allR m p = (allK m x p m.length, 0)) := Lib.hid (by unfold allR; rw [hxm]; rfl)
  rw [HA.out] at HS4 ⊢
  simp only at HS4
  have HXM := Lib.hid hxm
  obtain ⟨al, hal⟩ : ∃ al, allK m x p m.length = al := ⟨_, rfl⟩
  have HALE := Lib.hid hal
  rw [hal] at HS4 ⊢
  have HASC : Hid (Asc al) := Lib.hid (by rw [← hal]; exact (allK_asc HWF.out x p m.length (Nat.le_refl _)).1)
  have HOV : Hid (∀ z ∈ al, ovR m z p = (true, 0)) := Lib.hid (by intro z hz; rw [← hal] at hz; exact all_over hxm hz)
  have HPRV : Hid (bits .and .i64 x.flags 2 ≠ 0 → bits .and .i64 x.flags 8 = 0 → al = [p]) := Lib.hid (by
    intro h1 h2
    rw [← hal]
    exact all_priv HWF.out hxm (by unfold statF; rw [h2]; rfl) (flM_at HFL.out hxm h1))
  have hlal : al.length ≤ 300 := by
    rw [← hal]
    have := allK_len HWF.out x p m.length (Nat.le_refl _)
    have := HWF.out.len
    omega
  have HOC := Lib.hid (fun wr (hr : Below w4.heap.size w4 wr) z => OOverrides ((H2.out.next HBX4.out).next hr) z p)
  clear hal hxm HA K G HFL
  go_wp2_with fail
  go_loopg [12] al.length (fun gk u wr => ∃ j : Nat, Hid (j + gk = al.length) ∧ u = .int .i64 j ∧ Hid (Below w4.heap.size w4 wr))
  case atStart => exact ⟨0, Lib.hid (Nat.zero_add _), rfl, Lib.hid (Below.refl _ _)⟩
  case round =>
    obtain ⟨j, hj, rfl, HBR⟩ := hrel
    by_cases hlt : j < al.length
    · have hlt' : (j : Int) < (al.length : Int) := by omega
      obtain ⟨ab, ao, rfl, g0, g1⟩ := IdSl.elem (HS4.out.alike (Alike.of_below HBR.out fun _ h => h.2)) hlt
      have HOX := Lib.hid (HOC.out wr HBR.out al[j])
      rw [HOV.out _ (List.getElem_mem hlt)] at HOX
      have HZ := Lib.hid (fun j' (h : j' + 1 = j) => by
        have h1 := List.pairwise_iff_getElem.1 HASC.out j' j (by omega) hlt (by omega)
        obtain ⟨ab', ao', e, g0', _⟩ := IdSl.elem (HS4.out.alike (Alike.of_below HBR.out fun _ h => h.2)) (show j' < al.length by omega)
        obtain ⟨rfl, rfl⟩ : ab = ab' ∧ ao = ao' := by simpa using e
        exact (⟨al[j'].1, g0', h1⟩ : ∃ z', wr.cell? ⟨ab, ao + j' * 2, none⟩ = some (.int .i64 z') ∧ z' < al[j].1))
      obtain ⟨z, hz⟩ : ∃ z, al[j] = z := ⟨_, rfl⟩
      rw [hz] at g0 g1 HOX HZ
      have k0 := cell_regrown g0
      have k1 := cell_regrown g1
      have k2 := cell_regrown (below_cell' HBR.out HP4.out.1)
      have k3 := cell_regrown (below_cell' HBR.out HP4.out.2)
      have cO : ∀ d os, Calls Tryz.prog 7 #[.pointer (some ⟨B + 1, 0, none⟩), .agg #[.int .i64 z.1, .int .i64 z.2], .agg #[.int .i64 p.1, .int .i64 p.2]] (grow (redrawn wr d) os) fun e w'' => e = .returned (.tuple #[.bool true, .int .i64 0]) ∧ ∃ p : Regrown, w'' = grow (redrawn wr p.d) p.os := fun d os => Calls.regrown_of (by
        have := HOC.out _ (HBR.out.trans ((below_regrown wr d os).mono HBR.out.size)) z
        rw [HOV.out z (by rw [← hz]; exact List.getElem_mem hlt)] at this
        exact this)
      clear hz g0 g1 HOX x0 x1 x2 p0 p1
      go_wp2_with fail
      refine wp_region_quiet_below (by kernel_rfl) (by kernel_rfl) ?_
      repeat (with_reducible refine wpQuiet_step (fun K hK => ?_); go_simp; first | (with_reducible refine hK _ ?_; clear hK K) | (apply Exists.intro; refine ⟨fun _ => ?_, hK _ ?_⟩; (go_at_call 7; exact cO _ _); clear hK K))
      with_reducible refine wpQuiet_nil ?_
      intro _ hw'
      obtain ⟨⟨dq, osq⟩, hw''⟩ := hw'
      subst hw''
      have hbq := below_regrown wr dq osq
      have HBQ := Lib.hid (HBR.out.trans (hbq.mono HBR.out.size))
      have h0 := k0 dq osq
      have HZ1 := Lib.hid (fun j' (h : j' + 1 = j) => by
        obtain ⟨z', h1, h2⟩ := HZ.out j' h
        exact (⟨z', cell_regrown h1 dq osq, h2⟩ : ∃ z', (grow (redrawn wr dq) osq).cell? ⟨ab, ao + j' * 2, none⟩ = some (.int .i64 z') ∧ z' < z.1))
      clear k0 k1 k2 k3 cO hbq HZ
      generalize grow (redrawn wr dq) osq = w5 at h0 HBQ HZ1 ⊢
      cases j with
      | zero =>
        go_wp2_with fail
        go_quiet (fail)
        go_wp2
        go_roundg (al.length - (0 + 1))
        case measure => have := hj.out; omega
        case rel => exact ⟨0 + 1, Lib.hid (by have := hj.out; omega), by go_num, Lib.hid (below_drewN HBQ.out _)⟩
      | succ j' =>
        obtain ⟨z', g0, hzz⟩ := HZ1.out j' rfl
        have hle : ¬ (z.1 ≤ z') := by omega
        have hj300 : j' ≤ 300 := by omega
        go_wp2_with fail
        go_quiet (fail)
        go_wp2
        go_roundg (al.length - (j' + 1 + 1))
        case measure => have := hj.out; omega
        case rel => exact ⟨j' + 1 + 1, Lib.hid (by have := hj.out; omega), by go_num, Lib.hid (below_drewN HBQ.out _)⟩
    · have HBF := Lib.hid HBR.out
      have HCH := Lib.hid (fun wr (hr : Below w4.heap.size w4 wr) => Chain ((H2.out.next HBX4.out).next hr).hw ((H2.out.next HBX4.out).next hr).live r)
      clear HOC HASC x0 x1 x2 p0 p1
      have x0 := below_cell' HBR.out HX4.out.1
      have x1 := below_cell' HBR.out HX4.out.2.1
      have x2 := below_cell' HBR.out HX4.out.2.2
      have p0 := below_cell' HBR.out HP4.out.1
      have p1 := below_cell' HBR.out HP4.out.2
      have HX5 := Lib.hid (And.intro x0 (And.intro x1 x2))
      have HP5 := Lib.hid (And.intro p0 p1)
      have HS5 := Lib.hid (HS4.out.alike (Alike.of_below HBR.out fun _ h => h.2))
      clear HX4 HP4 HS4
      go_wp2_with fail
      -- what is private is alone
      go_cut [119] from 97 to 118 (fun s119 wx => Hid (s119 = .bool false ∧ Below wr.heap.size wr wx))
      case first =>
        by_cases hpv : bits .and .i64 x.flags 2 = 0
        · have hpv' : (bits .and .i64 x.flags 2 != 0) = false := by rw [hpv]; rfl
          go_wp2_with fail
          go_quiet (fail)
          go_wp2_with fail
          go_meet
          exact Lib.hid ⟨rfl, below_drewN (Below.refl _ _) _⟩
        have hpv' : (bits .and .i64 x.flags 2 != 0) = true := by simpa using hpv
        by_cases hsv : bits .and .i64 x.flags 8 = 0
        case neg =>
          have hsv' : (bits .and .i64 x.flags 8 == 0) = false := by simpa using hsv
          go_wp2_with fail
          go_quiet (fail)
          go_wp2_with fail
          go_meet
          exact Lib.hid ⟨rfl, below_drewN (Below.refl _ _) _⟩
        have hsv' : (bits .and .i64 x.flags 8 == 0) = true := by simpa using hsv
        have HALP := Lib.hid (HPRV.out hpv hsv)
        clear hpv hsv
        have hn1 : al.length = 1 := by rw [HALP.out]; rfl
        obtain ⟨ab, ao, rfl, g0, g1⟩ := IdSl.elem HS5.out (show 0 < al.length by omega)
        have hz : al[0]'(by omega) = p := by simp only [HALP.out, List.getElem_cons_zero]
        rw [hz] at g0 g1
        simp only [Nat.zero_mul, Nat.add_zero] at g0 g1
        have hn2 : ((al.length : Int) != 1) = false := by rw [hn1]; rfl
        have hn3 : (0 : Int) < (al.length : Int) := by omega
        have hn4 : 0 < al.length := by omega
        have hn5 : ¬ al = [] := by intro e; rw [e] at hn4; exact absurd hn4 (by decide)
        clear hz hn1 HALP
        have k0 := cell_regrown g0
        have k1 := cell_regrown g1
        have k2 := cell_regrown p0
        have k3 := cell_regrown p1
        have k4 := cell_regrown x2
        have cS : ∀ d os, Calls Tryz.prog 13 #[.agg #[.int .i64 p.1, .int .i64 p.2], .agg #[.int .i64 p.1, .int .i64 p.2]] (grow (redrawn wr d) os) fun e w'' => e = .returned (.bool true) ∧ ∃ p : Regrown, w'' = grow (redrawn wr p.d) p.os := fun d os => Calls.regrown_of (by
          have := RID p.1 p.2 p.1 p.2 (grow (redrawn wr d) os)
          rw [beq_self_eq_true, beq_self_eq_true] at this
          exact this)
        clear g0 g1 p0 p1 x0 x1 x2
        go_wp2_with fail
        refine wp_region_quiet_below (by kernel_rfl) (by kernel_rfl) ?_
        repeat (with_reducible refine wpQuiet_step (fun K hK => ?_); go_simp; first | (with_reducible refine hK _ ?_; clear hK K) | (apply Exists.intro; refine ⟨fun _ => ?_, hK _ ?_⟩; (go_at_call 13; exact cS _ _); clear hK K))
        with_reducible refine wpQuiet_nil ?_
        intro _ hw'
        obtain ⟨⟨dq, osq⟩, hw''⟩ := hw'
        subst hw''
        have HBQ := Lib.hid (below_regrown wr dq osq)
        clear k0 k1 k2 k3 k4 cS
        go_wp2_with fail
        go_meet
        exact Lib.hid ⟨rfl, HBQ.out⟩
      case rest => 
        obtain ⟨rfl, hbc⟩ := hcut.out
        clear hcut x0 x1 x2 p0 p1
        have HB6 := Lib.hid (HBF.out.trans (hbc.mono HBF.out.size))
        have HX6 := Lib.hid (And.intro (below_cell' hbc HX5.out.1) (And.intro (below_cell' hbc HX5.out.2.1) (below_cell' hbc HX5.out.2.2)))
        have HP6 := Lib.hid (And.intro (below_cell' hbc HP5.out.1) (below_cell' hbc HP5.out.2))
        have HS6 : Hid (IdSl (fun b => wx.heap.size ≤ b ∧ b < w4.heap.size) wc (.slice aa al.length ac) al) := Lib.hid (HS5.out.alike (Alike.of_below hbc fun k hk => by have := HBF.out.size; have := hk.2; omega))
        have HCX := Lib.hid (HCH.out wc HB6.out)
        clear hbc HX5 HP5 HS5 HCH HBR HBF
        go_wp2_with fail
        refine HCX.out.mono ?_
        rintro e w7 ⟨ca, cc, rfl, hcs, hb⟩
        have HB7 := Lib.hid (HB6.out.trans (hb.mono HB6.out.size))
        have HX7 := Lib.hid (And.intro (below_cell' hb HX6.out.1) (And.intro (below_cell' hb HX6.out.2.1) (below_cell' hb HX6.out.2.2)))
        have p0 := below_cell' hb HP6.out.1
        have p1 := below_cell' hb HP6.out.2
        have HP7 := Lib.hid (And.intro p0 p1)
        have HS7 : Hid (IdSl (fun b => wx.heap.size ≤ b ∧ b < w4.heap.size) w7 (.slice aa al.length ac) al) := Lib.hid (HS6.out.alike (Alike.of_below hb fun k hk => by have := HB6.out.size; have := hk.2; omega))
        have HCS := Lib.hid hcs
        obtain ⟨⟨⟨u1, u2⟩, ur⟩, hR⟩ : ∃ R, firstI m x p r = R := ⟨_, rfl⟩
        have HF : Hid (∀ wr, Below w4.heap.size w4 wr → Calls Tryz.prog 15 #[.pointer (some ⟨B + 1, 0, none⟩), .int .i64 r, .agg #[.int .i64 p.1, .int .i64 p.2]] wr fun e w' => e = .returned (.tuple #[.agg #[.int .i64 u1, .int .i64 u2], .int .i64 ur]) ∧ Below wr.heap.size wr w') := Lib.hid (fun wr hr => by
          have hxm := HXM.out
          obtain ⟨i, j, hi, hj, rfl, rfl⟩ := methAt_some hxm
          have := OFirst ((H2.out.next HBX4.out).next hr) hi hj r
          rw [hR] at this
          exact this)
        have HFX := Lib.hid (HF.out w7 HB7.out)
        have HR := Lib.hid hR
        have hzc : wc.heap.size ≤ w7.heap.size := hb.size
        clear hb hcs hR HX6 HP6 HS6 HB6 HCX HF
        go_wp2_with fail
        refine HFX.out.mono ?_
        rintro e w8 ⟨rfl, hb⟩
        obtain ⟨wm, hwm⟩ : ∃ wm, (w8.alloc (.cells #[.int .i64 u1, .int .i64 u2] 28)) = wm := ⟨_, rfl⟩
        have hbm : Below w8.heap.size w8 wm := by rw [← hwm]; exact (Below.refl _ _).alloc (Nat.le_refl _) _
        have m0 : wm.cell? ⟨w8.heap.size, 0, none⟩ = some (.int .i64 u1) := by rw [← hwm]; exact World.cell?_alloc_new ..
        have m1 : wm.cell? ⟨w8.heap.size, 1, none⟩ = some (.int .i64 u2) := by rw [← hwm]; exact World.cell?_alloc_new ..
        have hb' := hb.trans (hbm.mono hb.size)
        have HB8 := Lib.hid (HB7.out.trans (hb'.mono HB7.out.size))
        have hz7 : w7.heap.size ≤ wm.heap.size := hb'.size
        have x0 := below_cell' hb' HX7.out.1
        have x1 := below_cell' hb' HX7.out.2.1
        have x2 := below_cell' hb' HX7.out.2.2
        have p0' := below_cell' hb' HP7.out.1
        have p1' := below_cell' hb' HP7.out.2
        have HX8 := Lib.hid (And.intro x0 (And.intro x1 x2))
        have HP8 := Lib.hid (And.intro p0' p1')
        have HM8 := Lib.hid (And.intro m0 m1)
        have HS8 : Hid (IdSl (fun b => wx.heap.size ≤ b ∧ b < w4.heap.size) wm (.slice aa al.length ac) al) := Lib.hid (HS7.out.alike (Alike.of_below hb' fun k hk => by have := HB7.out.size; have := hk.2; omega))
        have HCS8 : Hid (IntSl (fun b => wc.heap.size ≤ b ∧ b < w7.heap.size) wm (.slice ca (chainM m r).1.length cc) (chainM m r).1) := Lib.hid (HCS.out.alike (Alike.of_below hb' fun k hk => hk.2))
        clear p0 p1 hb hbm hb' HX7 HP7 HS7 HCS HB7 HFX
        cases her : entAt m r with
        | none =>
          have HCM : Hid (chainM m r = ([], 3)) := Lib.hid (by unfold chainM; rw [her])
          obtain ⟨_, rfl⟩ : ((0 : Int) = u1 ∧ (0 : Int) = u2) ∧ (3 : Int) = ur := by
            have hR := HR.out
            unfold firstI at hR
            rw [her] at hR
            simpa [Prod.ext_iff] using hR
          rw [HCM.out]
          have HBF := Lib.hid (HB4.out.trans (HB8.out.mono HB4.out.size))
          clear HCM her
          go_wp2
          try rw [hwm]
          go_ret
          exact ⟨rfl, HBF.out⟩
        | some ee =>
          obtain ⟨rr, rfl, hrm, _⟩ := entAt_some her
          have HCM : Hid (chainM m (rr : Int) = (ch m rr, 0)) := Lib.hid (by unfold ch chainM; rw [her])
          rw [HCM.out] at HCS8 ⊢
          simp only at HCS8
          have HRF : Hid (firstE m x p rr = ((u1, u2), ur)) := Lib.hid (by
            have hR := HR.out
            unfold firstI at hR
            rw [her, Int.toNat_natCast] at hR
            exact hR)
          clear HCM HR her
          have HIX := Lib.hid (fun wr (hr : Below wm.heap.size wm wr) => (((H2.out.next HBX4.out).next HB8.out).next hr).isIface p.1)
          go_upto_region 22 with fail
          try rw [hwm]
          go_cut [19] from 137 to 158 (fun s19 wx => Hid (∃ op, s19 = .bool op ∧ (op = true → bits .and .i64 x.flags 5 ≠ 0 ∧ bits .and .i64 x.flags 8 = 0 ∧ (x.name.toList == initN.toList) = false ∧ isIfaceM m p.1 = false) ∧ Below wm.heap.size wm wx))
          case first =>
            by_cases h5 : bits .and .i64 x.flags 5 = 0
            · have h5' : (bits .and .i64 x.flags 5 != 0) = false := by rw [h5]; rfl
              go_wp2_with fail
              go_meet
              exact Lib.hid ⟨false, rfl, fun h => (by cases h), Below.refl _ _⟩
            have h5' : (bits .and .i64 x.flags 5 != 0) = true := by simpa using h5
            by_cases h8 : bits .and .i64 x.flags 8 = 0
            case neg =>
              have h8' : (bits .and .i64 x.flags 8 == 0) = false := by simpa using h8
              go_wp2_with fail
              go_meet
              exact Lib.hid ⟨false, rfl, fun h => (by cases h), Below.refl _ _⟩
            have h8' : (bits .and .i64 x.flags 8 == 0) = true := by simpa using h8
            have HFF := Lib.hid (And.intro h5 h8)
            clear h5 h8
            have hinit : initN.toList = [60, 105, 110, 105, 116, 62] := by decide +kernel
            cases hnm : (x.name.toList == initN.toList) with
            | true =>
              have hnm' : (x.name.toList == [60, 105, 110, 105, 116, 62]) = true := by rw [← hinit]; exact hnm
              go_wp2_with fail
              go_meet
              exact Lib.hid ⟨false, rfl, fun h => (by cases h), Below.refl _ _⟩
            | false =>
              have hnm' : (x.name.toList == [60, 105, 110, 105, 116, 62]) = false := by rw [← hinit]; exact hnm
              have HNM := Lib.hid hnm
              have HI := Lib.hid (HIX.out wm (Below.refl _ _))
              cases hif : isIfaceM m p.1
              all_goals
                rw [hif] at HI
                clear hnm
                go_wp2_with fail
                refine HI.out.mono ?_
                rintro e w9 ⟨rfl, hb⟩
                have HB9 := Lib.hid hb
                clear hb HI
                go_wp2_with fail
                go_meet
              · exact Lib.hid ⟨true, rfl, fun _ => ⟨HFF.out.1, HFF.out.2, HNM.out, hif⟩, HB9.out⟩
              · exact Lib.hid ⟨false, rfl, fun h => (by cases h), HB9.out⟩
          case rest =>
            obtain ⟨op, rfl, hop, hbc⟩ := hcut.out
            clear hcut
            obtain ⟨w9, rfl⟩ : ∃ w9, w9 = wc := ⟨_, rfl⟩
            have HW := Lib.hid (((H2.out.next HBX4.out).next HB8.out).next hbc)
            have HB9 : Hid (Below w.heap.size w w9) := Lib.hid (HB4.out.trans ((HB8.out.trans (hbc.mono HB8.out.size)).mono HB4.out.size))
            have HX9 := Lib.hid (And.intro (below_cell' hbc HX8.out.1) (And.intro (below_cell' hbc HX8.out.2.1) (below_cell' hbc HX8.out.2.2)))
            have HP9 := Lib.hid (And.intro (below_cell' hbc HP8.out.1) (below_cell' hbc HP8.out.2))
            have HM9 := Lib.hid (And.intro (below_cell' hbc HM8.out.1) (below_cell' hbc HM8.out.2))
            have HS9 : Hid (IdSl (fun b => b < w9.heap.size) w9 (.slice aa al.length ac) al) := Lib.hid ((HS8.out.alike (Alike.of_below hbc fun k hk => by have := HB8.out.size; have := hk.2; omega)).mono (fun k hk => by have := HB8.out.size; have := hk.2; have := hbc.size; omega))
            have HCS9 : Hid (IntSl (fun b => b < w9.heap.size) w9 (.slice ca (ch m rr).length cc) (ch m rr)) := Lib.hid ((HCS8.out.alike (Alike.of_below hbc fun k hk => by have := hk.2; omega)).mono fun k hk => by have := hk.2; have := hbc.size; omega)
            have HNEAR : Hid (∀ k (hk : k < (ch m rr).length) q, q ∈ al → q.1 = (ch m rr)[k] → (∀ k' (h : k' < (ch m rr).length), k' < k → ∀ q ∈ al, q.1 ≠ (ch m rr)[k']) → u1 = q.1 ∧ u2 = q.2 ∧ ur = 0) := Lib.hid (fun k hk q hq he hn => by
              have hxm := HXM.out
              have hal := HALE.out
              obtain ⟨i, j, hi, _, rfl, _⟩ := methAt_some hxm
              subst hal
              have h1 := first_near HWF.out HO.out x hi (j : Int) hrm hk hq he hn
              rw [HRF.out] at h1
              simp only [Prod.ext_iff] at h1
              exact ⟨h1.1.1, h1.1.2, h1.2⟩)
            have HNONE : Hid ((∀ k' (h : k' < (ch m rr).length), ∀ q ∈ al, q.1 ≠ (ch m rr)[k']) → ur = 6) := Lib.hid (fun hn => by
              have hxm := HXM.out
              have hal := HALE.out
              obtain ⟨i, j, hi, _, rfl, _⟩ := methAt_some hxm
              subst hal
              have h1 := first_none HWF.out HO.out x hi (j : Int) hrm (fun q hq h => by
                obtain ⟨k, hk, e⟩ := List.getElem_of_mem h
                exact hn k hk q hq e.symm)
              rw [HRF.out] at h1
              simp only [Prod.ext_iff] at h1
              exact h1.2)
            have HOPEN : Hid (op = true → ∀ c : Nat, c < m.length → (findH m c x.name x.desc).2 = 0 → isIfaceM m c = false → extM m c p.1 = true → ∀ y, methAt m ((c : Int), (findH m c x.name x.desc).1) = some y → bits .and .i64 y.flags 10 = 0 → ∃ q ∈ al, q.1 = (c : Int)) := Lib.hid (fun ht c hc hf hi he y hy hyf => by
              obtain ⟨h5, h8, hn, hif⟩ := hop ht
              rw [← HALE.out]
              exact all_open HWF.out HO.out HXM.out (by unfold statF; rw [h8]; rfl) h5 hn hif hc hf hi he hy hyf)
            have HLM : Hid (∀ k (hk : k < (ch m rr).length), ∃ c : Nat, (ch m rr)[k] = (c : Int) ∧ c < m.length) := Lib.hid (fun k hk => by
              obtain ⟨c, e, _, h, _⟩ := ch_mem HWF.out hrm _ (List.getElem_mem hk)
              exact ⟨c, e, h⟩)
            have hll : (ch m rr).length ≤ 300 := ch_len_le HWF.out hrm
            generalize ch m rr = L at *
            clear hop hbc H2 HBX4 HB8 HX8 HP8 HM8 HS8 HCS8 HIX HWF HO HXM HALE HOV HPRV HRF hlt hj HB4 x0 x1 x2 p0' p1' m0 m1
            go_wp2_with fail
            go_loopg [20] L.length (fun gk u wr => ∃ k : Nat, Hid (k + gk = L.length) ∧ u = .int .i64 k ∧ Hid (∀ k' (h : k' < L.length), k' < k → ∀ q ∈ al, q.1 ≠ L[k']) ∧ Hid (Below w9.heap.size w9 wr))
            case atStart => exact ⟨0, Lib.hid (Nat.zero_add _), rfl, Lib.hid (fun k' h h0 => absurd h0 (Nat.not_lt_zero _)), Lib.hid (Below.refl _ _)⟩
            case round =>
              obtain ⟨k, hk, rfl, HNO, HBR⟩ := hrel
              by_cases hlt : k < L.length
              · have hlt' : (k : Int) < (L.length : Int) := by omega
                have HWO := Lib.hid HBR.out.size
                go_wp2_with fail
                go_loopg [21] al.length (fun gk u wr => ∃ j : Nat, Hid (j + gk = al.length) ∧ u = .int .i64 j ∧ Hid (∀ j' (h : j' < al.length), j' < j → al[j'].1 ≠ L[k]) ∧ Hid (Below w9.heap.size w9 wr))
                case atStart => exact ⟨0, Lib.hid (Nat.zero_add _), rfl, Lib.hid (fun k' h h0 => absurd h0 (Nat.not_lt_zero _)), HBR⟩
                case round =>
                  obtain ⟨j, hj, rfl, HNJ, HBJ⟩ := hrel
                  obtain ⟨cb, co, rfl, hce⟩ := IntSl.elem HCS9.out (by omega)
                  have c0 := below_cell' HBJ.out (hce k L[k] (List.getElem?_eq_getElem hlt))
                  clear hce
                  by_cases hjl : j < al.length
                  · have hjl' : (j : Int) < (al.length : Int) := by omega
                    obtain ⟨ab, ao, rfl, g0, g1⟩ := IdSl.elem HS9.out hjl
                    have g0 := below_cell' HBJ.out g0
                    have g1 := below_cell' HBJ.out g1
                    by_cases heq : al[j].1 = L[k]
                    · obtain ⟨rfl, rfl, rfl⟩ := HNEAR.out k hlt al[j] (List.getElem_mem hjl) heq HNO.out
                      have m0 := below_cell' HBJ.out HM9.out.1
                      have m1 := below_cell' HBJ.out HM9.out.2
                      have heq' : (al[j].1 == L[k]) = true := by simpa using heq
                      have HRI := Lib.hid (RID al[j].1 al[j].2 al[j].1 al[j].2)
                      rw [beq_self_eq_true, beq_self_eq_true] at HRI
                      generalize al[j] = z at g0 g1 m0 m1 heq' HRI
                      generalize L[k] = e at c0 heq'
                      clear heq
                      go_wp2_with fail
                      go_quiet (fail)
                      have HBQ := Lib.hid (below_drewN HBJ.out nq)
                      have k0 := cell_regrown (show (wr.drewN nq).cell? _ = _ from g0)
                      have k1 := cell_regrown (show (wr.drewN nq).cell? _ = _ from g1)
                      have k2 := cell_regrown (show (wr.drewN nq).cell? _ = _ from m0)
                      have k3 := cell_regrown (show (wr.drewN nq).cell? _ = _ from m1)
                      generalize wr.drewN nq = wq at k0 k1 k2 k3 HBQ ⊢
                      have cS : ∀ d os, Calls Tryz.prog 13 #[.agg #[.int .i64 z.1, .int .i64 z.2], .agg #[.int .i64 z.1, .int .i64 z.2]] (grow (redrawn wq d) os) fun e w'' => e = .returned (.bool true) ∧ ∃ p : Regrown, w'' = grow (redrawn wq p.d) p.os := fun d os => Calls.regrown_of (HRI.out _)
                      clear g0 g1 m0 m1 c0
                      go_wp2_with fail
                      refine wp_region_quiet_below (by kernel_rfl) (by kernel_rfl) ?_
                      repeat (with_reducible refine wpQuiet_step (fun K hK => ?_); go_simp; first | (with_reducible refine hK _ ?_; clear hK K) | (apply Exists.intro; refine ⟨fun _ => ?_, hK _ ?_⟩; (go_at_call 13; exact cS _ _); clear hK K))
                      with_reducible refine wpQuiet_nil ?_
                      intro _ hw'
                      obtain ⟨⟨dq, osq⟩, hw''⟩ := hw'
                      subst hw''
                      have HBF := Lib.hid (HB9.out.trans ((HBQ.out.trans ((below_regrown wq dq osq).mono HBQ.out.size)).mono HB9.out.size))
                      clear k0 k1 k2 k3 cS
                      go_wp2_with fail
                      go_ret
                      exact ⟨rfl, HBF.out⟩
                    · have heq' : (al[j].1 == L[k]) = false := by simpa using heq
                      have HEQ := Lib.hid heq
                      generalize hz : al[j] = z at g0 g1 heq'
                      generalize hc : L[k] = e at c0 heq'
                      clear heq
                      go_wp2_with fail
                      go_quiet (fail)
                      go_wp2
                      go_roundg (al.length - (j + 1))
                      case measure => have := hj.out; omega
                      case rel => exact ⟨j + 1, Lib.hid (by have := hj.out; omega), by go_num, Lib.hid (fun j' h h1 => by
                        by_cases e : j' < j
                        · exact HNJ.out j' h e
                        · obtain rfl : j' = j := by omega
                          exact HEQ.out), Lib.hid (below_drewN HBJ.out _)⟩
                  · have HNA : Hid (∀ q ∈ al, q.1 ≠ L[k]) := Lib.hid (fun q hq => by
                      obtain ⟨j', h, rfl⟩ := List.getElem_of_mem hq
                      exact HNJ.out j' h (by have := hj.out; omega))
                    obtain ⟨ci, hci, hcm⟩ := HLM.out k hlt
                    have HCI := Lib.hid hci
                    rw [hci] at c0
                    clear hci
                    have x0 := below_cell' HBJ.out HX9.out.1
                    have x1 := below_cell' HBJ.out HX9.out.2.1
                    have k0 := cell_regrown c0
                    have k1 := cell_regrown x0
                    have k2 := cell_regrown x1
                    have HFS : Hid (∃ f1 f2, findH m (ci : Int) x.name x.desc = (f1, f2)) := Lib.hid ⟨_, _, rfl⟩
                    obtain ⟨f1, f2, hf⟩ := HFS.out
                    have HFE := Lib.hid hf
                    have cF : ∀ d os, Calls Tryz.prog 17 #[.pointer (some ⟨B + 1, 0, none⟩), .int .i64 ci, .string x.name, .string x.desc] (grow (redrawn wr d) os) fun e w'' => e = .returned (.tuple #[.int .i64 f1, .int .i64 f2]) ∧ ∃ p : Regrown, w'' = grow (redrawn wr p.d) p.os := fun d os => Calls.regrown_of (by
                      have := ((HW.out.next HBJ.out).next (below_regrown wr d os)).find hcm x.name x.desc
                      rw [hf] at this
                      exact this)
                    clear hf HFS
                    have HCM := Lib.hid hcm
                    clear hcm x0 x1
                    go_wp2_with fail
                    refine wp_region_quiet_below (by kernel_rfl) (by kernel_rfl) ?_
                    repeat (with_reducible refine wpQuiet_step (fun K hK => ?_); go_simp; first | (with_reducible refine hK _ ?_; clear hK K) | (apply Exists.intro; refine ⟨fun _ => ?_, hK _ ?_⟩; (go_at_call 17; exact cF _ _); clear hK K))
                    with_reducible refine wpQuiet_nil ?_
                    intro _ hw'
                    obtain ⟨⟨dq, osq⟩, hw''⟩ := hw'
                    subst hw''
                    have HBQ := Lib.hid (HBJ.out.trans ((below_regrown wr dq osq).mono HBJ.out.size))
                    have c1 := k0 dq osq
                    clear k0 k1 k2 cF c0
                    generalize grow (redrawn wr dq) osq = wq at HBQ c1 ⊢
                    go_wp2_with fail
                    go_cut [227] from 204 to 226 (fun s227 wx => Hid (∃ t, s227 = .bool t ∧ (t = true → f2 = 0 ∧ op = true ∧ isIfaceM m ci = false ∧ extM m ci p.1 = true) ∧ Below w9.heap.size w9 wx))
                    case first =>
                      have p0 := below_cell' HBQ.out HP9.out.1
                      have k0 := cell_regrown c1
                      have k1 := cell_regrown p0
                      obtain ⟨t1, ht1⟩ : ∃ t1, isIfaceM m ci = t1 := ⟨_, rfl⟩
                      obtain ⟨t2, ht2⟩ : ∃ t2, extM m ci p.1 = t2 := ⟨_, rfl⟩
                      have cI : ∀ d os, Calls Tryz.prog 16 #[.pointer (some ⟨B + 1, 0, none⟩), .int .i64 ci] (grow (redrawn wq d) os) fun e w'' => e = .returned (.bool t1) ∧ ∃ p : Regrown, w'' = grow (redrawn wq p.d) p.os := fun d os => Calls.regrown_of (by rw [← ht1]; exact ((HW.out.next HBQ.out).next (below_regrown wq d os)).isIface ci)
                      have cE : ∀ d os, Calls Tryz.prog 18 #[.pointer (some ⟨B + 1, 0, none⟩), .int .i64 ci, .int .i64 p.1] (grow (redrawn wq d) os) fun e w'' => e = .returned (.bool t2) ∧ ∃ p : Regrown, w'' = grow (redrawn wq p.d) p.os := fun d os => Calls.regrown_of (by rw [← ht2]; exact ((HW.out.next HBQ.out).next (below_regrown wq d os)).extends ci p.1)
                      have HT := Lib.hid (And.intro ht1 ht2)
                      obtain ⟨ff, hff⟩ : ∃ ff, (f2 == 0) = ff := ⟨_, rfl⟩
                      have HFF := Lib.hid (fun (h : ff = true) => (by rw [h] at hff; simpa using hff : f2 = 0))
                      clear ht1 ht2 p0 c1
                      have hcase : ff = false ∨ (ff = true ∧ op = false) ∨ (ff = true ∧ op = true ∧ t1 = true) ∨ (ff = true ∧ op = true ∧ t1 = false ∧ t2 = false) ∨ (ff = true ∧ op = true ∧ t1 = false ∧ t2 = true) := by
                        cases ff <;> cases op <;> cases t1 <;> cases t2 <;> simp
                      rcases hcase with rfl | ⟨rfl, rfl⟩ | ⟨rfl, rfl, rfl⟩ | ⟨rfl, rfl, rfl, rfl⟩ | ⟨rfl, rfl, rfl, rfl⟩
                      all_goals
                        go_wp2_with fail
                        refine wp_region_quiet_below (by kernel_rfl) (by kernel_rfl) ?_
                        repeat (with_reducible refine wpQuiet_step (fun K hK => ?_); go_simp; first | (with_reducible refine hK _ ?_; clear hK K) | (apply Exists.intro; refine ⟨fun _ => ?_, hK _ ?_⟩; (first | (go_at_call 16; exact cI _ _) | (go_at_call 18; exact cE _ _)); clear hK K))
                        with_reducible refine wpQuiet_nil ?_
                        intro _ hw'
                        obtain ⟨⟨dq, osq⟩, hw''⟩ := hw'
                        subst hw''
                        have HBC := Lib.hid (HBQ.out.trans ((below_regrown wq dq osq).mono HBQ.out.size))
                        clear cI cE k0 k1
                        go_wp2_with fail
                        go_meet
                        exact Lib.hid ⟨_, rfl, fun h => by first | (cases h; done) | exact ⟨HFF.out (by trivial), by trivial, HT.out.1, HT.out.2⟩, HBC.out⟩
                    case rest =>
                      obtain ⟨t, rfl, ht, hbc⟩ := hcut.out
                      clear hcut
                      have HNX : Hid (∀ k' (h : k' < L.length), k' < k + 1 → ∀ q ∈ al, q.1 ≠ L[k']) := Lib.hid (fun k' h h1 => by
                        by_cases e : k' < k
                        · exact HNO.out k' h e
                        · obtain rfl : k' = k := by omega
                          exact HNA.out)
                      have HBC := Lib.hid hbc
                      cases t with
                      | false =>
                        clear ht hbc c1
                        go_wp2
                        go_roundg (L.length - (k + 1))
                        case measure => have := hk.out; omega
                        case rel => exact ⟨k + 1, Lib.hid (by have := hk.out; omega), by go_num, HNX, HBC⟩
                      | true =>
                        obtain ⟨rfl, rfl, hif, hex⟩ := ht rfl
                        have HOP : Hid (∀ y, methAt m ((ci : Int), f1) = some y → bits .and .i64 y.flags 10 = 0 → False) := Lib.hid (fun y hy hyf => by
                          have hf := HFE.out
                          have h1 := HOPEN.out rfl ci HCM.out (by rw [hf]) hif hex y (by rw [hf]; exact hy) hyf
                          obtain ⟨q, hq, e⟩ := h1
                          exact HNA.out q hq (by rw [HCI.out, e]))
                        have HMS : Hid (∃ y, methAt m ((ci : Int), f1) = some y) := Lib.hid (by
                          have hf := HFE.out
                          obtain ⟨b, hb, e, _⟩ := findH_ok HCM.out (show (findH m (ci : Int) x.name x.desc).2 = 0 by rw [hf])
                          rw [hf] at e
                          simp only at e
                          subst e
                          exact ⟨_, methAt_at HCM.out hb⟩)
                        have HMY := Lib.hid (MethodAny (HW.out.next hbc) ((ci : Int), f1))
                        obtain ⟨cb', co', e', hce⟩ := IntSl.elem HCS9.out (by omega)
                        obtain ⟨rfl, rfl⟩ : cb = cb' ∧ co = co' := by simpa using e'
                        have c2 := below_cell' hbc (hce k L[k] (List.getElem?_eq_getElem hlt))
                        rw [HCI.out] at c2
                        clear hce e' c1 hif hex ht hbc
                        go_wp2_with fail
                        refine HMY.out.mono ?_
                        rintro e wy ⟨nm', ds', f', l', s', ad', q', c', er', rfl, g', k', hb⟩
                        have her : er' = 0 := by
                          by_cases z : er' = 0
                          · exact z
                          · obtain ⟨hn, _⟩ := k' z
                            obtain ⟨y, hy⟩ := HMS.out
                            rw [hn] at hy
                            cases hy
                        subst her
                        obtain ⟨y, hy, rfl, rfl, rfl⟩ := g' rfl
                        have hyf : (bits .and .i64 y.flags 10 == 0) = false := by
                          cases hb : (bits .and .i64 y.flags 10 == 0) with
                          | false => rfl
                          | true => exact (HOP.out y hy (by simpa using hb)).elim
                        have HBY := Lib.hid ((HBC.out.trans (hb.mono HBC.out.size)).alloc (Nat.le_trans HBC.out.size hb.size) (.cells #[.string y.name, .string y.desc, .int .i64 y.flags, .int .i64 l', .int .i64 s', .slice ad' q' c'] 45))
                        clear g' k' hy hb c2 HMY
                        go_wp2
                        go_roundg (L.length - (k + 1))
                        case measure => have := hk.out; omega
                        case rel => exact ⟨k + 1, Lib.hid (by have := hk.out; omega), by go_num, HNX, HBY⟩
              · have hur := HNONE.out (fun k' h => HNO.out k' h (by omega))
                subst hur
                have HBF := Lib.hid (HB9.out.trans (HBR.out.mono HB9.out.size))
                go_wp2
                go_ret
                exact ⟨rfl, HBF.out⟩
end Go.Proofs.YtmenknflabohhaaGreatDoor.Hi
