/- ChooseAgree: the walk. -/
import Derived.Test.YtiiebakblkpkeaaGreatDoorWg
set_option maxRecDepth 100000
set_option maxHeartbeats 8000000
set_option linter.unusedVariables false
set_option linter.unusedSimpArgs false
namespace Go.Proofs.YtiiebakblkpkeaaGreatDoor.Hi
open Go.RowKit Go.Shelf Go.Sort Bs

theorem ChooseAgree (a : Option Addr) (cp : Nat) (xs : List ClsM) (r : Int) (p : Int × Int) (w : World) (hx : ClsSl (fun b => b < w.heap.size) w (.slice a xs.length cp) xs) (he : Lf.Env w) :
    Calls Tryz.prog 6 #[.slice a xs.length cp, .int .i64 r, .agg #[.int .i64 p.1, .int .i64 p.2]] w fun e w' => e = .returned (.bool true) ∧ Below w.heap.size w w' := by
  obtain ⟨wa, hwa⟩ : ∃ wa, (w.alloc (.cells #[.int .i64 p.1, .int .i64 p.2] 24)) = wa := ⟨_, rfl⟩
  have hba : Below w.heap.size w wa := by rw [← hwa]; exact (Below.refl _ _).alloc (Nat.le_refl _) _
  have p0 : wa.cell? ⟨w.heap.size, 0, none⟩ = some (.int .i64 p.1) := by rw [← hwa]; exact World.cell?_alloc_new ..
  have p1 : wa.cell? ⟨w.heap.size, 1, none⟩ = some (.int .i64 p.2) := by rw [← hwa]; exact World.cell?_alloc_new ..
  have HBA := Lib.hid hba
  have HP := Lib.hid (And.intro p0 p1)
  have HX := Lib.hid (hx.nextO hba)
  have HE := Lib.hid (he.below hba)
  have HAW := Lib.hid (awake12 wa)
  clear hx he hba p0 p1
  go_enter Tryz.func6, Tryz.ntmps6
  go_wp2_with fail
  try rw [hwa]
  clear hwa
  refine HAW.out.mono ?_
  rintro e w1 ⟨rfl, hb1⟩
  have HBU := Lib.hid (built12 a cp xs w1 (HX.out.nextO hb1) (HE.out.below hb1))
  have HB1 := Lib.hid (HBA.out.trans (hb1.mono HBA.out.size))
  have HP1 := Lib.hid (And.intro (below_cell' hb1 HP.out.1) (below_cell' hb1 HP.out.2))
  clear hb1 HX HE HAW HBA HP
  go_wp2_with fail
  refine HBU.out.mono ?_
  rintro e w2 ⟨rfl, h2⟩
  have H2 := Lib.hid h2
  have HB2 := Lib.hid (HB1.out.trans (h2.below.mono HB1.out.size))
  have p0 := below_cell' h2.below HP1.out.1
  have p1 := below_cell' h2.below HP1.out.2
  have HFL := Lib.hid (flA_defs xs)
  clear h2 HBU HB1 HP1
  generalize w1.heap.size = B at H2
  generalize defs xs = m at H2 HFL
  have HWF := Lib.hid H2.out.wf
  have HO := Lib.hid H2.out.ord
  have HM := Lib.hid (MethodAny H2.out p)
  have HP2 := Lib.hid (And.intro p0 p1)
  go_wp2_with fail
  refine HM.out.mono ?_
  rintro e w3 ⟨nm, ds, f, l, s, ad, q, c, er, rfl, g, k, hb⟩
  obtain ⟨wx, hwx⟩ : ∃ wx, (w3.alloc (.cells #[.string nm, .string ds, .int .i64 f, .int .i64 l, .int .i64 s, .slice ad q c] 39)) = wx := ⟨_, rfl⟩
  have hbx : Below w3.heap.size w3 wx := by rw [← hwx]; exact (Below.refl _ _).alloc (Nat.le_refl _) _
  have x0 : wx.cell? ⟨w3.heap.size, 0, none⟩ = some (.string nm) := by rw [← hwx]; exact World.cell?_alloc_new ..
  have x1 : wx.cell? ⟨w3.heap.size, 1, none⟩ = some (.string ds) := by rw [← hwx]; exact World.cell?_alloc_new ..
  have x2 : wx.cell? ⟨w3.heap.size, 2, none⟩ = some (.int .i64 f) := by rw [← hwx]; exact World.cell?_alloc_new ..
  have hb3 := hb.trans (hbx.mono hb.size)
  have HB3 := Lib.hid (HB2.out.trans (hb3.mono HB2.out.size))
  have H3 := Lib.hid (H2.out.next hb3)
  have G := Lib.hid g
  have K := Lib.hid k
  have HX3 := Lib.hid (And.intro x0 (And.intro x1 x2))
  have p0 := below_cell' hb3 HP2.out.1
  have p1 := below_cell' hb3 HP2.out.2
  have HP3 := Lib.hid (And.intro p0 p1)
  clear hb hbx hb3 g k HM HP2 HB2 H2
  have HCH := Lib.hid (Chain H3.out.hw H3.out.live r)
  go_wp2_with fail
  try rw [hwx]
  clear hwx
  refine HCH.out.mono ?_
  rintro e w4 ⟨ca, cc, rfl, hcs, hb⟩
  have HB4 := Lib.hid (HB3.out.trans (hb.mono HB3.out.size))
  have H4 := Lib.hid (H3.out.next hb)
  have HCS : Hid (IntSl (fun b => b < w4.heap.size) w4 (.slice ca (chainM m r).1.length cc) (chainM m r).1) := Lib.hid (hcs.mono fun _ h => h.2)
  have x0 := below_cell' hb HX3.out.1
  have x1 := below_cell' hb HX3.out.2.1
  have x2 := below_cell' hb HX3.out.2.2
  have p0 := below_cell' hb HP3.out.1
  have p1 := below_cell' hb HP3.out.2
  have HX4 := Lib.hid (And.intro x0 (And.intro x1 x2))
  have HP4 := Lib.hid (And.intro p0 p1)
  clear hb hcs HCH HX3 HP3 HB3 H3
  by_cases z : er = 0
  case neg =>
    obtain ⟨hn, rfl⟩ := K.out z
    clear z hn K G HCS x0 x1 x2 HX4 HFL HWF HO H4 p0 p1 HP4
    go_wp2
    go_ret
    exact ⟨rfl, HB4.out⟩
  subst z
  obtain ⟨x, hxm, rfl, rfl, rfl⟩ := G.out rfl
  have HXM := Lib.hid hxm
  clear G K hxm
  cases her : entAt m r with
  | none =>
    have HCM : Hid (chainM m r = ([], 3)) := Lib.hid (by unfold chainM; rw [her])
    rw [HCM.out]
    clear HCM her HCS x0 x1 x2 HX4 HFL HWF HO H4 p0 p1 HP4 HXM
    go_wp2
    go_ret
    exact ⟨rfl, HB4.out⟩
  | some ee =>
    obtain ⟨rr, rfl, hrm, _⟩ := entAt_some her
    have HCM : Hid (chainM m (rr : Int) = (ch m rr, 0)) := Lib.hid (by unfold ch chainM; rw [her])
    rw [HCM.out] at HCS ⊢
    simp only at HCS
    have HKM := Lib.hid hrm
    have hll : (ch m rr).length ≤ 300 := ch_len_le HWF.out hrm
    clear HCM her
    by_cases h9 : bits .and .i64 x.flags 9 = 1
    case neg =>
      have h9' : (bits .and .i64 x.flags 9 != 1) = true := by simpa using h9
      clear h9 HCS x0 x1 HX4 HFL HWF HO H4 p0 p1 HP4 HXM
      go_wp2
      go_ret
      exact ⟨rfl, HB4.out⟩
    have h9' : (bits .and .i64 x.flags 9 != 1) = false := by simpa using h9
    have HEX := Lib.hid (H4.out.extends (rr : Int) p.1)
    go_wp2_with fail
    refine HEX.out.mono ?_
    rintro _ w5 ⟨rfl, hb⟩
    have HB5 := Lib.hid (HB4.out.trans (hb.mono HB4.out.size))
    have H5 := Lib.hid (H4.out.next hb)
    have HCS5 := Lib.hid (HCS.out.next hb)
    have HX5 := Lib.hid (And.intro (below_cell' hb HX4.out.1) (below_cell' hb HX4.out.2.1))
    have HP5 := Lib.hid (And.intro (below_cell' hb HP4.out.1) (below_cell' hb HP4.out.2))
    clear hb HEX HX4 HP4 HCS HB4 H4 x0 x1 x2 p0 p1 h9'
    cases hex : extM m (rr : Int) p.1 with
    | false =>
      clear HCS5 HFL HWF HO H5 HP5 HX5 HXM HKM h9
      go_wp2
      go_ret
      exact ⟨rfl, HB5.out⟩
    | true =>
      have HAG : Hid ((∀ c : Nat, (c : Int) ∈ ch m rr → (findH m c x.name x.desc).2 = 0 → ∃ y, methAt m ((c : Int), (findH m c x.name x.desc).1) = some y ∧ bits .and .i64 y.flags 9 = 1 ∧ (y.name.toList == initN.toList) = false ∧ (isIfaceM m p.1 = true → extM m c p.1 = true)) → virE m x p rr = itfE m x p rr) := Lib.hid (fun h => agree HWF.out HO.out HFL.out HXM.out HKM.out h9 hex h)
      have HLM : Hid (∀ k (hk : k < (ch m rr).length), ∃ c : Nat, (ch m rr)[k] = (c : Int) ∧ c < m.length) := Lib.hid (fun k hk => by
        obtain ⟨c, e, _, h, _⟩ := ch_mem HWF.out HKM.out _ (List.getElem_mem hk)
        exact ⟨c, e, h⟩)
      have HVV : Hid (∀ wr, Below w5.heap.size w5 wr → Calls Tryz.prog 10 #[.pointer (some ⟨B + 1, 0, none⟩), .int .i64 rr, .agg #[.int .i64 p.1, .int .i64 p.2]] wr fun e w' => e = .returned (.tuple #[.agg #[.int .i64 (virE m x p rr).1.1, .int .i64 (virE m x p rr).1.2], .int .i64 (virE m x p rr).2]) ∧ Below wr.heap.size wr w') := Lib.hid (fun wr hr => by
        have := CVirtual (H5.out.next hr) (rr : Int) p
        rw [(virM_some HKM.out HXM.out).1] at this
        exact this)
      have HII : Hid (∀ wr, Below w5.heap.size w5 wr → Calls Tryz.prog 11 #[.pointer (some ⟨B + 1, 0, none⟩), .int .i64 rr, .agg #[.int .i64 p.1, .int .i64 p.2]] wr fun e w' => e = .returned (.tuple #[.agg #[.int .i64 (itfE m x p rr).1.1, .int .i64 (itfE m x p rr).1.2], .int .i64 (itfE m x p rr).2]) ∧ Below wr.heap.size wr w') := Lib.hid (fun wr hr => by
        have := CInterface (H5.out.next hr) (rr : Int) p
        rw [(virM_some HKM.out HXM.out).2] at this
        exact this)
      have hinit : initN.toList = [60, 105, 110, 105, 116, 62] := by decide +kernel
      have HINI := Lib.hid hinit
      generalize ch m rr = L at *
      clear hex h9 HWF HO HFL HXM hinit
      go_wp2_with fail
      go_loopg [12] L.length (fun gk u wr => ∃ k : Nat, Hid (k + gk = L.length) ∧ u = .int .i64 k ∧ Hid (∀ j (h : j < L.length), j < k → ∀ c : Nat, L[j] = (c : Int) → (findH m c x.name x.desc).2 = 0 → ∃ y, methAt m ((c : Int), (findH m c x.name x.desc).1) = some y ∧ bits .and .i64 y.flags 9 = 1 ∧ (y.name.toList == initN.toList) = false ∧ (isIfaceM m p.1 = true → extM m c p.1 = true)) ∧ Hid (Below w5.heap.size w5 wr))
      case atStart => exact ⟨0, Lib.hid (Nat.zero_add _), rfl, Lib.hid (fun k' h h0 => absurd h0 (Nat.not_lt_zero _)), Lib.hid (Below.refl _ _)⟩
      case round =>
        obtain ⟨k, hk, rfl, HNO, HBR⟩ := hrel
        by_cases hlt : k < L.length
        · have hlt' : (k : Int) < (L.length : Int) := by omega
          obtain ⟨c, hc, hcm⟩ := HLM.out k hlt
          obtain ⟨cb, co, rfl, hce⟩ := IntSl.elem HCS5.out (by omega)
          have g0 := below_cell' HBR.out (hce k c (by rw [List.getElem?_eq_getElem hlt, hc]))
          have G0 := Lib.hid g0
          have k0 := cell_regrown g0
          have k1 := cell_regrown (below_cell' HBR.out HX5.out.1)
          have k2 := cell_regrown (below_cell' HBR.out HX5.out.2)
          obtain ⟨⟨fi, fe⟩, hF⟩ : ∃ R, findH m c x.name x.desc = R := ⟨_, rfl⟩
          have cF : ∀ d os, Calls Tryz.prog 21 #[.pointer (some ⟨B + 1, 0, none⟩), .int .i64 c, .string x.name, .string x.desc] (grow (redrawn wr d) os) fun e w'' => e = .returned (.tuple #[.int .i64 fi, .int .i64 fe]) ∧ ∃ p : Regrown, w'' = grow (redrawn wr p.d) p.os := fun d os => Calls.regrown_of (by
            have := (H5.out.next (HBR.out.trans ((below_regrown wr d os).mono HBR.out.size))).find hcm x.name x.desc
            rw [hF] at this
            exact this)
          have HNX : Hid ((fe = 0 → ∃ y, methAt m ((c : Int), fi) = some y ∧ bits .and .i64 y.flags 9 = 1 ∧ (y.name.toList == initN.toList) = false ∧ (isIfaceM m p.1 = true → extM m c p.1 = true)) → ∀ j (h : j < L.length), j < k + 1 → ∀ c : Nat, L[j] = (c : Int) → (findH m c x.name x.desc).2 = 0 → ∃ y, methAt m ((c : Int), (findH m c x.name x.desc).1) = some y ∧ bits .and .i64 y.flags 9 = 1 ∧ (y.name.toList == initN.toList) = false ∧ (isIfaceM m p.1 = true → extM m c p.1 = true)) := Lib.hid (fun hy j hj hl c' hc' h0 => by
            by_cases ej : j = k
            · subst ej
              obtain rfl : c' = c := by omega
              rw [hF] at h0 ⊢
              exact hy h0
            · exact HNO.out j hj (by omega) c' hc' h0)
          have HYX : Hid (fe = 0 → ∃ y, methAt m ((c : Int), fi) = some y) := Lib.hid (fun h0 => by
            obtain ⟨b, hb, e, h, _⟩ := find_names hcm (show (findH m c x.name x.desc).2 = 0 by rw [hF]; exact h0)
            rw [hF] at h
            exact ⟨_, h⟩)
          clear hF hc hce g0 HNO HLM
          go_wp2_with fail
          refine wp_region_quiet_below (by kernel_rfl) (by kernel_rfl) ?_
          repeat (with_reducible refine wpQuiet_step (fun K hK => ?_); go_simp; first | (with_reducible refine hK _ ?_; clear hK K) | (apply Exists.intro; refine ⟨fun _ => ?_, hK _ ?_⟩; (go_at_call 21; exact cF _ _); clear hK K))
          with_reducible refine wpQuiet_nil ?_
          intro _ hw'
          obtain ⟨⟨dq, osq⟩, hw''⟩ := hw'
          subst hw''
          have hbq := below_regrown wr dq osq
          have HBQ := Lib.hid (HBR.out.trans (hbq.mono HBR.out.size))
          have h0 := k0 dq osq
          clear k0 k1 k2 cF hbq HBR G0
          generalize grow (redrawn wr dq) osq = w6 at h0 HBQ ⊢
          by_cases hfe : fe = 0
          case neg =>
            have hfe' : (fe == 0) = false := by simpa using hfe
            have HN1 := Lib.hid (HNX.out (fun h => absurd h hfe))
            clear hfe HNX HYX h0
            go_wp2
            go_roundg (L.length - (k + 1))
            case measure => have := hk.out; omega
            case rel => exact ⟨k + 1, Lib.hid (by have := hk.out; omega), by go_num, HN1, HBQ⟩
          subst hfe
          obtain ⟨y, hy⟩ := HYX.out rfl
          have HME := Lib.hid (OMethod_some (H5.out.next HBQ.out) hy)
          have HYM := Lib.hid hy
          have HC6 := Lib.hid h0
          clear hy HYX
          go_wp2_with fail
          refine HME.out.mono ?_
          rintro _ w7 ⟨ya, yq, yc, rfl, hb⟩
          obtain ⟨wo, hwo⟩ : ∃ wo, (w7.alloc (.cells #[.string y.name, .string y.desc, .int .i64 y.flags, .int .i64 y.locals, .int .i64 y.stack, .slice ya yq yc] 39)) = wo := ⟨_, rfl⟩
          have hbo : Below w7.heap.size w7 wo := by rw [← hwo]; exact (Below.refl _ _).alloc (Nat.le_refl _) _
          have y0 : wo.cell? ⟨w7.heap.size, 0, none⟩ = some (.string y.name) := by rw [← hwo]; exact World.cell?_alloc_new ..
          have y2 : wo.cell? ⟨w7.heap.size, 2, none⟩ = some (.int .i64 y.flags) := by rw [← hwo]; exact World.cell?_alloc_new ..
          have hb' := hb.trans (hbo.mono hb.size)
          have HB7 := Lib.hid (HBQ.out.trans (hb'.mono HBQ.out.size))
          have HBW := Lib.hid (HB5.out.trans (HB7.out.mono HB5.out.size))
          have HC7 := Lib.hid (below_cell' hb' HC6.out)
          clear hb hbo hb' HME HC6 HBQ h0
          by_cases h9 : bits .and .i64 y.flags 9 = 1
          case neg =>
            have h9' : (bits .and .i64 y.flags 9 != 1) = true := by simpa using h9
            clear h9 y0 HNX HYM
            go_wp2
            try rw [hwo]
            go_ret
            exact ⟨rfl, HBW.out⟩
          have h9' : (bits .and .i64 y.flags 9 != 1) = false := by simpa using h9
          cases hin : (y.name.toList == initN.toList) with
          | true =>
            have hin' : (y.name.toList == [60, 105, 110, 105, 116, 62]) = true := by rw [← HINI.out]; exact hin
            clear h9 hin HNX HYM
            go_wp2
            try rw [hwo]
            go_ret
            exact ⟨rfl, HBW.out⟩
          | false =>
            have hin' : (y.name.toList == [60, 105, 110, 105, 116, 62]) = false := by rw [← HINI.out]; exact hin
            obtain ⟨bi, hbi⟩ : ∃ b, isIfaceM m p.1 = b := ⟨_, rfl⟩
            obtain ⟨be, hbe⟩ : ∃ b, extM m c p.1 = b := ⟨_, rfl⟩
            have HN1 : Hid ((bi = true → be = true) → ∀ j (h : j < L.length), j < k + 1 → ∀ c : Nat, L[j] = (c : Int) → (findH m c x.name x.desc).2 = 0 → ∃ y, methAt m ((c : Int), (findH m c x.name x.desc).1) = some y ∧ bits .and .i64 y.flags 9 = 1 ∧ (y.name.toList == initN.toList) = false ∧ (isIfaceM m p.1 = true → extM m c p.1 = true)) := Lib.hid (fun hh => HNX.out (fun _ => ⟨y, HYM.out, h9, hin, fun h => by rw [hbe]; exact hh (by rw [← hbi]; exact h)⟩))
            have k0 := cell_regrown HC7.out
            have k1 := cell_regrown (below_cell' HB7.out HP5.out.1)
            have cI : ∀ d os, Calls Tryz.prog 17 #[.pointer (some ⟨B + 1, 0, none⟩), .int .i64 p.1] (grow (redrawn wo d) os) fun e w'' => e = .returned (.bool (isIfaceM m p.1)) ∧ ∃ p : Regrown, w'' = grow (redrawn wo p.d) p.os := fun d os => Calls.regrown_of ((H5.out.next (HB7.out.trans ((below_regrown wo d os).mono HB7.out.size))).isIface p.1)
            have cE : ∀ d os, Calls Tryz.prog 20 #[.pointer (some ⟨B + 1, 0, none⟩), .int .i64 c, .int .i64 p.1] (grow (redrawn wo d) os) fun e w'' => e = .returned (.bool (extM m c p.1)) ∧ ∃ p : Regrown, w'' = grow (redrawn wo p.d) p.os := fun d os => Calls.regrown_of ((H5.out.next (HB7.out.trans ((below_regrown wo d os).mono HB7.out.size))).extends c p.1)
            rw [hbi] at cI
            rw [hbe] at cE
            clear hbi hbe hin h9 HNX HYM HC7
            cases bi with
            | false =>
              have HN2 := Lib.hid (HN1.out (fun h => absurd h (by decide)))
              clear HN1 cE
              go_wp2_with fail
              try rw [hwo]
              clear hwo y0 y2 h9' hin'
              refine wp_region_quiet_below (by kernel_rfl) (by kernel_rfl) ?_
              repeat (with_reducible refine wpQuiet_step (fun K hK => ?_); go_simp; first | (with_reducible refine hK _ ?_; clear hK K) | (apply Exists.intro; refine ⟨fun _ => ?_, hK _ ?_⟩; (go_at_call 17; exact cI _ _); clear hK K))
              with_reducible refine wpQuiet_nil ?_
              intro _ hw'
              obtain ⟨⟨dq, osq⟩, hw''⟩ := hw'
              subst hw''
              have hbq := below_regrown wo dq osq
              have HBQ := Lib.hid (HB7.out.trans (hbq.mono HB7.out.size))
              have HBV := Lib.hid (HB5.out.trans (HBQ.out.mono HB5.out.size))
              clear k0 k1 cI hbq
              generalize grow (redrawn wo dq) osq = w8 at HBQ HBV ⊢
              go_wp2
              go_roundg (L.length - (k + 1))
              case measure => have := hk.out; omega
              case rel => exact ⟨k + 1, Lib.hid (by have := hk.out; omega), by go_num, HN2, HBQ⟩
            | true =>
              cases be with
              | true =>
                have HN2 := Lib.hid (HN1.out (fun _ => rfl))
                clear HN1
                go_wp2_with fail
                try rw [hwo]
                clear hwo y0 y2 h9' hin'
                refine wp_region_quiet_below (by kernel_rfl) (by kernel_rfl) ?_
                repeat (with_reducible refine wpQuiet_step (fun K hK => ?_); go_simp; first | (with_reducible refine hK _ ?_; clear hK K) | (apply Exists.intro; refine ⟨fun _ => ?_, hK _ ?_⟩; (go_at_call 17; exact cI _ _); clear hK K) | (apply Exists.intro; refine ⟨fun _ => ?_, hK _ ?_⟩; (go_at_call 20; exact cE _ _); clear hK K))
                with_reducible refine wpQuiet_nil ?_
                intro _ hw'
                obtain ⟨⟨dq, osq⟩, hw''⟩ := hw'
                subst hw''
                have hbq := below_regrown wo dq osq
                have HBQ := Lib.hid (HB7.out.trans (hbq.mono HB7.out.size))
                have HBV := Lib.hid (HB5.out.trans (HBQ.out.mono HB5.out.size))
                clear k0 k1 cI cE hbq
                generalize grow (redrawn wo dq) osq = w8 at HBQ HBV ⊢
                go_wp2
                go_roundg (L.length - (k + 1))
                case measure => have := hk.out; omega
                case rel => exact ⟨k + 1, Lib.hid (by have := hk.out; omega), by go_num, HN2, HBQ⟩
              | false =>
                clear HN1
                go_wp2_with fail
                try rw [hwo]
                clear hwo y0 y2 h9' hin'
                refine wp_region_quiet_below (by kernel_rfl) (by kernel_rfl) ?_
                repeat (with_reducible refine wpQuiet_step (fun K hK => ?_); go_simp; first | (with_reducible refine hK _ ?_; clear hK K) | (apply Exists.intro; refine ⟨fun _ => ?_, hK _ ?_⟩; (go_at_call 17; exact cI _ _); clear hK K) | (apply Exists.intro; refine ⟨fun _ => ?_, hK _ ?_⟩; (go_at_call 20; exact cE _ _); clear hK K))
                with_reducible refine wpQuiet_nil ?_
                intro _ hw'
                obtain ⟨⟨dq, osq⟩, hw''⟩ := hw'
                subst hw''
                have hbq := below_regrown wo dq osq
                have HBQ := Lib.hid (HB7.out.trans (hbq.mono HB7.out.size))
                have HBV := Lib.hid (HB5.out.trans (HBQ.out.mono HB5.out.size))
                clear k0 k1 cI cE hbq
                generalize grow (redrawn wo dq) osq = w8 at HBQ HBV ⊢
                go_wp2
                go_ret
                exact ⟨rfl, HBV.out⟩
        · have HEQ : Hid (virE m x p rr = itfE m x p rr) := Lib.hid (HAG.out (fun c hc h0 => by
            obtain ⟨j, hj, e⟩ := List.getElem_of_mem hc
            exact HNO.out j hj (by omega) c e h0))
          have HV := Lib.hid (HVV.out wr HBR.out)
          have HI := HII
          rw [← HEQ.out] at HI
          obtain ⟨⟨⟨u1, u2⟩, ur⟩, hR⟩ : ∃ R, virE m x p rr = R := ⟨_, rfl⟩
          rw [hR] at HV HI
          simp only at HV HI
          have p0 := below_cell' HBR.out HP5.out.1
          have p1 := below_cell' HBR.out HP5.out.2
          have HP6 := Lib.hid (And.intro p0 p1)
          clear hR HEQ HNO HVV HII HAG HLM
          go_wp2_with fail
          refine HV.out.mono ?_
          rintro _ w6 ⟨rfl, hb⟩
          obtain ⟨wm, hwm⟩ : ∃ wm, (w6.alloc (.cells #[.int .i64 u1, .int .i64 u2] 24)) = wm := ⟨_, rfl⟩
          have hbm : Below w6.heap.size w6 wm := by rw [← hwm]; exact (Below.refl _ _).alloc (Nat.le_refl _) _
          have m0 : wm.cell? ⟨w6.heap.size, 0, none⟩ = some (.int .i64 u1) := by rw [← hwm]; exact World.cell?_alloc_new ..
          have m1 : wm.cell? ⟨w6.heap.size, 1, none⟩ = some (.int .i64 u2) := by rw [← hwm]; exact World.cell?_alloc_new ..
          have hb' := hb.trans (hbm.mono hb.size)
          have HB6 := Lib.hid (HBR.out.trans (hb'.mono HBR.out.size))
          have p0 := below_cell' hb' HP6.out.1
          have p1 := below_cell' hb' HP6.out.2
          have HM6 := Lib.hid (And.intro m0 m1)
          have HIX := Lib.hid (HI.out wm HB6.out)
          clear hb hbm hb' HV HI HP6 HBR
          go_wp2_with fail
          try rw [hwm]
          clear hwm
          refine HIX.out.mono ?_
          rintro _ w7 ⟨rfl, hb⟩
          obtain ⟨wn, hwn⟩ : ∃ wn, (w7.alloc (.cells #[.int .i64 u1, .int .i64 u2] 24)) = wn := ⟨_, rfl⟩
          have hbn : Below w7.heap.size w7 wn := by rw [← hwn]; exact (Below.refl _ _).alloc (Nat.le_refl _) _
          have n0 : wn.cell? ⟨w7.heap.size, 0, none⟩ = some (.int .i64 u1) := by rw [← hwn]; exact World.cell?_alloc_new ..
          have n1 : wn.cell? ⟨w7.heap.size, 1, none⟩ = some (.int .i64 u2) := by rw [← hwn]; exact World.cell?_alloc_new ..
          have hb' := hb.trans (hbn.mono hb.size)
          have HB7 := Lib.hid (HB5.out.trans ((HB6.out.trans (hb'.mono HB6.out.size)).mono HB5.out.size))
          have m0 := below_cell' hb' HM6.out.1
          have m1 := below_cell' hb' HM6.out.2
          have HRI := Lib.hid (fun w => RID u1 u2 u1 u2 w)
          rw [beq_self_eq_true, beq_self_eq_true] at HRI
          clear hb hbn hb' HIX HB6 HM6 p0 p1
          go_wp2_with fail
          try rw [hwn]
          clear hwn
          refine (HRI.out _).mono ?_
          rintro _ w8 ⟨rfl, hb⟩
          have HB8 := Lib.hid (HB7.out.trans (hb.mono HB7.out.size))
          clear hb
          go_wp2
          go_ret
          exact ⟨rfl, HB8.out⟩
end Go.Proofs.YtiiebakblkpkeaaGreatDoor.Hi
