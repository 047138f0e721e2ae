/- ItableDefaults: the walk. -/
import Derived.Test.YtipinmbpdgjalaaGreatDoorBg
set_option maxRecDepth 100000
set_option maxHeartbeats 8000000
set_option linter.unusedVariables false
set_option linter.unusedSimpArgs false
namespace Go.Proofs.YtipinmbpdgjalaaGreatDoor.Hi
open Go.RowKit Go.Shelf Go.Sort Bs

theorem FindI {B bw : Nat} {w0 w : World} {m : List EntM} (h : Built B bw w0 w m) {c : Nat} (hc : c < m.length) (n d : ByteArray) :
    Calls Tryz.prog 29 #[.pointer (some ⟨bw, 0, none⟩), .int .i64 c, .string n, .string d] w fun r w' => r = .returned (.tuple #[.int .i64 (findH m c n d).1, .int .i64 (findH m c n d).2]) ∧ Below w.heap.size w w' := by
  have := Find_in h.hw h.live (entAt_nat hc) n d
  unfold findH
  rw [entAt_nat hc]
  exact this
theorem dec_step {m : List EntM} {c : Nat} (hc : c < m.length) (n d : ByteArray) : ((findH m (c : Int) n d).2 ≠ 0 ∧ (decM m n d (c : Int)).isSome = false) ∨ ∃ (i : Int) (y : MethM), findH m (c : Int) n d = (i, 0) ∧ methAt m ((c : Int), i) = some y ∧ (decM m n d (c : Int)).isSome = (bits .and .i64 y.flags 8 == 0) := by
  by_cases h : (findH m (c : Int) n d).2 = 0
  · obtain ⟨b, hb, e, hm, _, _⟩ := find_names hc h
    refine .inr ⟨_, _, Prod.ext rfl h, hm, ?_⟩
    unfold decM
    rw [if_pos h, hm]
    simp only
    unfold statF
    cases h8 : (bits .and .i64 m[c].c.meths[b].flags 8 == 0) with
    | true => rw [if_neg (by rw [bne, h8]; decide)]; rfl
    | false => rw [if_pos (by rw [bne, h8]; rfl)]; rfl
  · exact .inl ⟨h, by unfold decM; rw [if_neg h]; rfl⟩

theorem ItableDefaults (a : Option Addr) (cp : Nat) (xs : List ClsM) (d : Int) (hwd : (Lit.int .i64 d).wf = true) (w : World) (hx : ClsSl (fun b => b < w.heap.size) w (.slice a xs.length cp) xs) (he : Lf.Env w) :
    Calls Tryz.prog 6 #[.slice a xs.length cp, .int .i64 d] w fun e w' => e = .returned (.bool true) ∧ Below w.heap.size w w' := by
  have HX := Lib.hid hx
  have HE := Lib.hid he
  have HAW := Lib.hid (awake14 w)
  clear hx he
  go_enter Tryz.func6, Tryz.ntmps6
  go_wp2_with fail
  refine HAW.out.mono ?_
  rintro e w1 ⟨rfl, hb1⟩
  have HB1 := Lib.hid hb1
  have HBU := Lib.hid (built14 a cp xs w1 (HX.out.nextO hb1) (HE.out.below hb1))
  clear hb1 HX HE HAW
  go_wp2_with fail
  refine HBU.out.mono ?_
  rintro e w2 ⟨rfl, h2⟩
  have H2 := Lib.hid h2
  have HB2 := Lib.hid (HB1.out.trans (h2.below.mono HB1.out.size))
  have HML := Lib.hid (mlA_defs xs)
  have HFL := Lib.hid (flA_defs xs)
  clear h2 HBU HB1
  generalize w1.heap.size = B at H2
  generalize defs xs = m at H2 HML HFL
  have HWF := Lib.hid H2.out.wf
  have HO := Lib.hid H2.out.ord
  have HBD := Lib.hid (IBuild H2.out HML.out d)
  have HCH := Lib.hid (fun wr (hr : Below w2.heap.size w2 wr) => Chain (H2.out.next hr).hw (H2.out.next hr).live d)
  rcases itb_cases m d with hit | hit | ⟨r, rfl, hr, hi, hit⟩
  case inr.inr =>
    have HEL : Hid (∀ k (h : k < ((rootL m (clo m r)).map (etyM m r)).length), ∃ q, q ∈ rootL m (clo m r) ∧ ((rootL m (clo m r)).map (etyM m r))[k] = etyM m r q) := Lib.hid (fun k h => by
      rw [List.getElem_map]
      exact ⟨_, List.getElem_mem _, rfl⟩)
    have HLL : Hid (((rootL m (clo m r)).map (etyM m r)).length ≤ 12040) := Lib.hid (by
      have := rootM_len HWF.out HO.out HML.out (r : Int)
      rw [rootM_ok hr hi] at this
      rw [List.length_map]
      exact this)
    have HQ : Hid (∀ q, q ∈ rootL m (clo m r) → ∃ x, methAt m q = some x ∧ ((ch m r).any (fun c => (decM m x.name x.desc c).isSome) = false → itfM m (r : Int) q = oneM m r x.name x.desc ∧ virM m (r : Int) q = oneM m r x.name x.desc)) := Lib.hid (fun q hq => by
      obtain ⟨_, _, _, _, _, hm, _⟩ := root_mem HWF.out HO.out hr hq
      refine ⟨_, hm, fun h => root_def HWF.out HO.out HFL.out hr hi hq hm fun c hc => ?_⟩
      have := List.any_eq_false.1 h c hc
      simpa using this)
    have HME := Lib.hid (fun wr (hb : Below w2.heap.size w2 wr) q x (hx : methAt m q = some x) => OMethod_some (H2.out.next hb) hx)
    have HFI := Lib.hid (fun wr (hb : Below w2.heap.size w2 wr) c (hc : c < m.length) n d => FindI (H2.out.next hb) hc n d)
    have HON := Lib.hid (fun wr (hb : Below w2.heap.size w2 wr) n d => One (H2.out.next hb) hr n d)
    have HCM : Hid (∀ k (h : k < (ch m r).length), ∃ c : Nat, (ch m r)[k] = c ∧ c < m.length) := Lib.hid (fun k h => by
      obtain ⟨c, e, _, hc, _⟩ := ch_mem HWF.out hr _ (List.getElem_mem h)
      exact ⟨c, e, hc⟩)
    have HDS := Lib.hid (fun c (hc : c < m.length) n d => dec_step hc n d)
    have HCE : Hid (chainM m (r : Int) = (ch m r, 0)) := Lib.hid (by unfold ch chainM; rw [entAt_nat hr])
    have HCLN := Lib.hid (ch_len_le HWF.out hr)
    rw [hit] at HBD
    rw [HCE.out] at HCH
    dsimp only at HBD HCH
    generalize ((rootL m (clo m r)).map (etyM m r)) = T at *
    generalize ch m r = C at *
    clear hit HCE
    have hTl : (T.length : Int) ≤ 12040 := by have := HLL.out; omega
    have hCl : (C.length : Int) ≤ 301 := by have := HCLN.out; omega
    go_wp2_with fail
    refine HBD.out.mono ?_
    rintro _ w3 ⟨ra, rc, rfl, hrow, hb⟩
    have HS3 : Hid (EtySl (fun b => b < w3.heap.size) w3 (.slice ra T.length rc) T) := Lib.hid (Sl.mono (etySl_row hrow (by have := HLL.out; omega)) (fun b hb => hb.2) fun _ _ h => h)
    have HB3 := Lib.hid hb
    have HCX := Lib.hid (HCH.out w3 hb)
    clear hb hrow HBD HCH
    go_wp2_with fail
    refine HCX.out.mono ?_
    rintro _ w4 ⟨ca, cc, rfl, hs, hb⟩
    have HB4 := Lib.hid (HB3.out.trans (hb.mono HB3.out.size))
    have HS4 : Hid (EtySl (fun b => b < w3.heap.size) w4 (.slice ra T.length rc) T) := Lib.hid (HS3.out.carry (Alike.of_below hb fun _ h => h))
    have HI4 : Hid (IntSl (fun b => w3.heap.size ≤ b ∧ b < w4.heap.size) w4 (.slice ca C.length cc) C) := Lib.hid hs
    have HZ : Hid (w3.heap.size ≤ w4.heap.size) := Lib.hid hb.size
    clear hb hs HCX HS3 HB3
    go_wp2_with fail
    go_loopg [10] T.length (fun gk u wr => ∃ k : Nat, Hid (k + gk = T.length) ∧ u = .int .i64 k ∧ Hid (Below w4.heap.size w4 wr))
    case atStart => exact ⟨0, Lib.hid (Nat.zero_add _), rfl, Lib.hid (Below.refl _ _)⟩
    case round =>
      obtain ⟨k, hk, rfl, HBR⟩ := hrel
      by_cases hlt : k < T.length
      · have hlt' : (k : Int) < (T.length : Int) := by omega
        obtain ⟨b, o, rfl, _, g0, g1, g2, g3, g4, g5, g6, g7⟩ := EtySl.elem (HS4.out.carry (Alike.of_below HBR.out fun _ h => Nat.lt_of_lt_of_le h HZ.out)) hlt
        obtain ⟨q, hq, hTk⟩ := HEL.out k hlt
        rw [hTk] at g0 g1 g2 g3 g4 g5 g6 g7
        have HBW := Lib.hid (HB4.out.trans (HBR.out.mono HB4.out.size))
        obtain ⟨x, hmx, hone⟩ := HQ.out q hq
        have HM1 := Lib.hid (HME.out wr HBW.out q x hmx)
        unfold etyM at g0 g1 g2 g3 g4 g5 g6 g7
        obtain ⟨RI, hRI⟩ : ∃ R, itfM m r q = R := ⟨_, rfl⟩
        obtain ⟨RV, hRV⟩ : ∃ R, virM m r q = R := ⟨_, rfl⟩
        rw [hRI] at g2 g3 g4 hone
        rw [hRV] at g5 g6 g7 hone
        have HONE := Lib.hid hone
        have HTC := Lib.hid (And.intro g2 (And.intro g3 (And.intro g4 (And.intro g5 (And.intro g6 g7)))))
        clear hq hTk hmx hRI hRV hone g2 g3 g4 g5 g6 g7
        go_wp2_with fail
        clear g0 g1
        refine HM1.out.mono ?_
        rintro _ w5 ⟨ma, ml, mc, rfl, hb⟩
        obtain ⟨wx, hwx⟩ : ∃ wx, (w5.alloc (.cells #[.string x.name, .string x.desc, .int .i64 x.flags, .int .i64 x.locals, .int .i64 x.stack, .slice ma ml mc] 55)) = wx := ⟨_, rfl⟩
        have hbx : Below w5.heap.size w5 wx := by rw [← hwx]; exact (Below.refl _ _).alloc (Nat.le_refl _) _
        have CX : Cells wx w5.heap.size [.string x.name, .string x.desc, .int .i64 x.flags, .int .i64 x.locals, .int .i64 x.stack, .slice ma ml mc] := by rw [← hwx]; exact Cells.start w5 [.string x.name, .string x.desc, .int .i64 x.flags, .int .i64 x.locals, .int .i64 x.stack, .slice ma ml mc] _
        have hb' := hb.trans (hbx.mono hb.size)
        have HRX := Lib.hid hb'
        have HLX := Lib.hid (HBR.out.trans (hb'.mono HBR.out.size))
        have HXC := Lib.hid CX
        clear hb hbx hb' CX HM1
        go_wp2_with fail
        try rw [hwx]
        clear hwx
        go_loopg [13, 14] C.length (fun gj um uk wr' => ∃ j : Nat, Hid (j + gj = C.length) ∧ um = .bool ((C.take j).any (fun c => (decM m x.name x.desc c).isSome)) ∧ uk = .int .i64 j ∧ Hid (Below wx.heap.size wx wr'))
        case atStart => exact ⟨0, Lib.hid (Nat.zero_add _), rfl, rfl, Lib.hid (Below.refl _ _)⟩
        case round =>
          obtain ⟨wo, hwo⟩ : ∃ wo, wo = wr := ⟨_, rfl⟩
          subst hwo
          obtain ⟨j, hj, rfl, rfl, HBJ⟩ := hrel
          have HJL := Lib.hid (HLX.out.trans (HBJ.out.mono HLX.out.size))
          have HJW := Lib.hid (HB4.out.trans (HJL.out.mono HB4.out.size))
          have CX := HXC.out.below HBJ.out HXC.out.lt
          have n0 : wo.cell? ⟨w5.heap.size, 0, none⟩ = some (.string x.name) := CX.1 0 (by simp)
          have n1 : wo.cell? ⟨w5.heap.size, 1, none⟩ = some (.string x.desc) := CX.1 1 (by simp)
          clear CX
          by_cases hjl : j < C.length
          · have hjl' : (j : Int) < (C.length : Int) := by omega
            obtain ⟨cb, co, rfl, hel⟩ := IntSl.elem (HI4.out.alike (Alike.of_below HJL.out fun _ h => h.2)) (by omega)
            have e0 := hel j _ (List.getElem?_eq_getElem hjl)
            obtain ⟨c, hc, hcm⟩ := HCM.out j hjl
            have HAN : Hid ((C.take (j + 1)).any (fun c => (decM m x.name x.desc c).isSome) = ((C.take j).any (fun c => (decM m x.name x.desc c).isSome) || (decM m x.name x.desc (c : Int)).isSome)) := Lib.hid (by rw [List.take_succ_eq_append_getElem hjl, List.any_append, hc]; simp)
            rw [hc] at e0
            generalize (C.take j).any (fun c => (decM m x.name x.desc c).isSome) = met at HAN ⊢
            obtain ⟨f1, f2, hf⟩ : ∃ f1 f2, findH m (c : Int) x.name x.desc = (f1, f2) := ⟨_, _, rfl⟩
            have cF : ∀ d os, Calls Tryz.prog 29 #[.pointer (some ⟨B + 1, 0, none⟩), .int .i64 c, .string x.name, .string x.desc] (grow (redrawn wo d) os) fun e w'' => e = .returned (.tuple #[.int .i64 f1, .int .i64 f2]) ∧ ∃ p : Regrown, w'' = grow (redrawn wo p.d) p.os := fun d os => Calls.regrown_of (by
              have := HFI.out (grow (redrawn wo d) os) (HJW.out.trans ((below_regrown wo d os).mono HJW.out.size)) c hcm x.name x.desc
              rw [hf] at this
              exact this)
            have HD := HDS.out c hcm x.name x.desc
            rw [hf] at HD
            have HDD := Lib.hid HD
            have k0 := cell_regrown e0
            have k1 := cell_regrown n0
            have k2 := cell_regrown n1
            have HE0 := Lib.hid e0
            clear hel hc hcm hf HD e0 n0 n1
            go_wp2_with fail
            go_cut [15, 16] from 67 to 79 (fun s15 s16 wy => Hid (s15 = .int .i64 f1 ∧ s16 = .int .i64 f2 ∧ Below wo.heap.size wo wy))
            case first =>
              refine wp_region_quiet_below (by kernel_rfl) (by kernel_rfl) ?_
              repeat (with_reducible refine wpQuiet_step (fun K hK => ?_); go_simp; first | (with_reducible refine hK _ ?_; clear hK K) | (apply Exists.intro; refine ⟨fun _ => ?_, hK _ ?_⟩; (go_at_call 29; exact cF _ _); clear hK K))
              with_reducible refine wpQuiet_nil ?_
              intro _ hw'
              obtain ⟨⟨dq, osq⟩, hw''⟩ := hw'
              subst hw''
              have HB := Lib.hid (below_regrown wo dq osq)
              clear cF k0 k1 k2
              go_wp2_with fail
              go_meet
              exact Lib.hid ⟨rfl, rfl, HB.out⟩
            case rest =>
              obtain ⟨rfl, rfl, hbc⟩ := hcut.out
              have HBC := Lib.hid (HBJ.out.trans (hbc.mono HBJ.out.size))
              have e0 := below_cell' hbc HE0.out
              have HMW := Lib.hid (HJW.out.trans (hbc.mono HJW.out.size))
              clear hcut hbc cF k0 k1 k2 HE0 HBJ HJL HJW
              rename_i hK0
              with_reducible refine hK0 _ _ ?_
              clear hK0
              rcases HDD.out with ⟨hf2, hd⟩ | ⟨i, y, hfe, hmy, hd⟩
              · have hf2' : (f2 == 0) = false := by simpa using hf2
                have HAE : Hid ((C.take (j + 1)).any (fun c => (decM m x.name x.desc c).isSome) = met) := Lib.hid (by rw [HAN.out, hd, Bool.or_false])
                clear hf2 hd HDD e0
                go_wp2
                go_roundg (C.length - (j + 1))
                case measure => have := hj.out; omega
                case rel => exact ⟨j + 1, Lib.hid (by have := hj.out; omega), by rw [HAE.out], by go_num, HBC⟩
              · injection hfe with hf1 hf2
                subst hf1; subst hf2
                have HMY := Lib.hid (HME.out wc HMW.out _ y hmy)
                have HAE : Hid ((C.take (j + 1)).any (fun c => (decM m x.name x.desc c).isSome) = (met || (bits .and .i64 y.flags 8 == 0))) := Lib.hid (by rw [HAN.out, hd])
                clear hd hmy HDD
                go_wp2_with fail
                refine HMY.out.mono ?_
                rintro _ w6 ⟨ma', ml', mc', rfl, hb⟩
                obtain ⟨wy, hwy⟩ : ∃ wy, (w6.alloc (.cells #[.string y.name, .string y.desc, .int .i64 y.flags, .int .i64 y.locals, .int .i64 y.stack, .slice ma' ml' mc'] 55)) = wy := ⟨_, rfl⟩
                have hby : Below w6.heap.size w6 wy := by rw [← hwy]; exact (Below.refl _ _).alloc (Nat.le_refl _) _
                have y2 : wy.cell? ⟨w6.heap.size, 2, none⟩ = some (.int .i64 y.flags) := by rw [← hwy]; exact World.cell?_alloc_new ..
                have HBY := Lib.hid (HBC.out.trans ((hb.trans (hby.mono hb.size)).mono HBC.out.size))
                clear hb hby HMY HBC e0
                cases hm8 : (bits .and .i64 y.flags 8 == 0)
                all_goals
                  rw [hm8] at HAE
                  cases met
                  all_goals
                    go_wp2
                    try rw [hwy]
                    go_roundg (C.length - (j + 1))
                    case measure => have := hj.out; omega
                    case rel => exact ⟨j + 1, Lib.hid (by have := hj.out; omega), by rw [HAE.out]; rfl, by go_num, by first | exact HBY | (rw [hwy]; exact HBY)⟩
          · have hje : j = C.length := by have := hj.out; omega
            subst hje
            have HTK : Hid (C.take C.length = C) := Lib.hid (List.take_length)
            rw [HTK.out]
            obtain ⟨met, hmet⟩ : ∃ met, C.any (fun c => (decM m x.name x.desc c).isSome) = met := ⟨_, rfl⟩
            rw [hmet] at HONE ⊢
            clear hmet hj
            cases met with
            | true =>
              clear n0 n1
              go_wp2
              go_roundg (T.length - (k + 1))
              case measure => have := hk.out; omega
              case rel => exact ⟨k + 1, Lib.hid (by have := hk.out; omega), by go_num, HJL⟩
            | false =>
              obtain ⟨h1, h2⟩ := HONE.out rfl
              have HOX := HON.out wo HJW.out x.name x.desc
              obtain ⟨⟨⟨z1, z2⟩, z3⟩, hz⟩ : ∃ Z, oneM m r x.name x.desc = Z := ⟨_, rfl⟩
              rw [hz] at h1 h2 HOX
              subst h1; subst h2
              have HOX := Lib.hid HOX
              obtain ⟨g2, g3, g4, g5, g6, g7⟩ := HTC.out
              have HRJ := Lib.hid (HRX.out.trans (HBJ.out.mono HRX.out.size))
              have HG := Lib.hid (And.intro (below_cell' HRJ.out g2) (And.intro (below_cell' HRJ.out g3) (And.intro (below_cell' HRJ.out g4) (And.intro (below_cell' HRJ.out g5) (And.intro (below_cell' HRJ.out g6) (below_cell' HRJ.out g7))))))
              clear g2 g3 g4 g5 g6 g7 hz HONE
              dsimp only [idV] at HOX
              go_wp2_with fail
              refine HOX.out.mono ?_
              rintro _ w6 ⟨rfl, hb⟩
              obtain ⟨wy, hwy⟩ : ∃ wy, (w6.alloc (.cells #[.int .i64 z1, .int .i64 z2] 38)) = wy := ⟨_, rfl⟩
              have hby : Below w6.heap.size w6 wy := by rw [← hwy]; exact (Below.refl _ _).alloc (Nat.le_refl _) _
              have hb' := hb.trans (hby.mono hb.size)
              have y0 : wy.cell? ⟨w6.heap.size, 0, none⟩ = some (.int .i64 z1) := by rw [← hwy]; exact World.cell?_alloc_new ..
              have y1 : wy.cell? ⟨w6.heap.size, 1, none⟩ = some (.int .i64 z2) := by rw [← hwy]; exact World.cell?_alloc_new ..
              have HLY := Lib.hid (HJL.out.trans (hb'.mono HJL.out.size))
              have k2 := cell_regrown (below_cell' hb' HG.out.1)
              have k3 := cell_regrown (below_cell' hb' HG.out.2.1)
              have k4 := cell_regrown (below_cell' hb' HG.out.2.2.1)
              have k5 := cell_regrown (below_cell' hb' HG.out.2.2.2.1)
              have k6 := cell_regrown (below_cell' hb' HG.out.2.2.2.2.1)
              have k7 := cell_regrown (below_cell' hb' HG.out.2.2.2.2.2)
              have l0 := cell_regrown y0
              have l1 := cell_regrown y1
              have cR : ∀ d os, Calls Tryz.prog 13 #[.agg #[.int .i64 z1, .int .i64 z2], .agg #[.int .i64 z1, .int .i64 z2]] (grow (redrawn wy d) os) fun e w'' => e = .returned (.bool true) ∧ ∃ p : Regrown, w'' = grow (redrawn wy p.d) p.os := fun d os => Calls.regrown_of (by have := RID z1 z2 z1 z2 (grow (redrawn wy d) os); rw [beq_self_eq_true, beq_self_eq_true] at this; exact this)
              clear hb hby hb' HOX HG n0 n1 y0 y1
              go_wp2_with fail
              try rw [hwy]
              clear hwy
              go_cut [146] from 111 to 145 (fun s146 wv => Hid (s146 = .bool false ∧ Below wy.heap.size wy wv))
              case first =>
                refine wp_region_quiet_below (by kernel_rfl) (by kernel_rfl) ?_
                repeat (with_reducible refine wpQuiet_step (fun K hK => ?_); go_simp; first | (with_reducible refine hK _ ?_; clear hK K) | (apply Exists.intro; refine ⟨fun _ => ?_, hK _ ?_⟩; (go_at_call 13; exact cR _ _); clear hK K))
                with_reducible refine wpQuiet_nil ?_
                intro _ hw'
                obtain ⟨⟨dq, osq⟩, hw''⟩ := hw'
                subst hw''
                have HB := Lib.hid (below_regrown wy dq osq)
                clear cR k2 k3 k4 k5 k6 k7 l0 l1
                go_wp2_with fail
                go_meet
                exact Lib.hid ⟨rfl, HB.out⟩
              case rest =>
                obtain ⟨rfl, hbc⟩ := hcut.out
                have HB1 := Lib.hid (HLY.out.trans (hbc.mono HLY.out.size))
                clear hcut hbc cR k2 k3 k4 k5 k6 k7 l0 l1
                rename_i hK0
                with_reducible refine hK0 _ _ ?_
                clear hK0
                go_wp2
                go_roundg (T.length - (k + 1))
                case measure => have := hk.out; omega
                case rel => exact ⟨k + 1, Lib.hid (by have := hk.out; omega), by go_num, HB1⟩
      · have hlt' : ¬ (k : Int) < (T.length : Int) := by omega
        have HBE := Lib.hid (HB2.out.trans ((HB4.out.trans (HBR.out.mono HB4.out.size)).mono HB2.out.size))
        clear hk HB4 HBR
        go_wp2
        go_ret
        exact ⟨rfl, HBE.out⟩
  all_goals
    rw [hit] at HBD
    dsimp only at HBD
    clear hit
    go_wp2_with fail
    refine HBD.out.mono ?_
    rintro _ w3 ⟨ra, rc, rfl, hrow, hb⟩
    have HCX := Lib.hid (HCH.out w3 hb)
    have HB3 := Lib.hid (HB2.out.trans (hb.mono HB2.out.size))
    clear hb hrow HBD HCH
    go_wp2_with fail
    refine HCX.out.mono ?_
    rintro _ w4 ⟨ca, cc, rfl, _, hb⟩
    have HB4 := Lib.hid (HB3.out.trans (hb.mono HB3.out.size))
    clear hb HCX
    go_wp2
    go_ret
    exact ⟨rfl, HB4.out⟩
end Go.Proofs.YtipinmbpdgjalaaGreatDoor.Hi
