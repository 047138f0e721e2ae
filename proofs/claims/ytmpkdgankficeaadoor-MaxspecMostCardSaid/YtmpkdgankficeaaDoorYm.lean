/- MaxspecMost: what Max and One are made of. -/
import Derived.Test.YtmpkdgankficeaaDoorKh
set_option maxRecDepth 100000
set_option maxHeartbeats 1000000
set_option linter.unusedVariables false
set_option linter.unusedSimpArgs false
namespace Go.Proofs.YtmpkdgankficeaaDoor.Hi
open Go.RowKit Bs

theorem one_is {C : List (Int × Int)} {one : (Int × Int) × Int} (h : one = oneOf C) (h0 : one.2 = 0) {p : Int × Int} (hp : p ∈ C) : one.1 = p := by
  subst h
  rcases C with _ | ⟨q, _ | ⟨q', r⟩⟩
  · cases hp
  · simp at hp; exact hp.symm
  · simp [oneOf] at h0

theorem MaxspecMost (a : Option Addr) (cp : Nat) (xs : List ClsM) (c : Int) (hc : (Lit.int .i64 c).wf = true) (n : ByteArray) (hn : n.size ≤ maxLen) (d : ByteArray) (hd : d.size ≤ maxLen) (w : World) (hx : ClsSl (fun b => b < w.heap.size) w (.slice a xs.length cp) xs) (he : Lf.Env w) :
    Calls Tryd.prog 6 #[.slice a xs.length cp, .int .i64 c, .string n, .string d] w fun e w' => e = .returned (.bool true) ∧ Below w.heap.size w w' := by
  have HX := Lib.hid hx
  have HE := Lib.hid he
  clear hx he hc hn hd
  go_enter Tryd.func6, Tryd.ntmps6
  go_wp2_with fail
  refine (awake10 _).mono ?_
  rintro e w1 ⟨rfl, hb1⟩
  have HB1 := Lib.hid hb1
  have HBU := Lib.hid (built10 a cp xs w1 ((ClsSl.alike HX.out (Alike.of_below hb1 fun _ h => h)).mono (fun _ hk => Nat.lt_of_lt_of_le hk hb1.size) fun _ _ h => h.mono fun _ hk => Nat.lt_of_lt_of_le hk hb1.size) (HE.out.below hb1))
  clear hb1
  go_wp2_with fail
  refine HBU.out.mono ?_
  rintro e w2 ⟨rfl, h2⟩
  have H2 := Lib.hid h2
  clear h2 HBU
  generalize w1.heap.size = B at H2
  generalize defs xs = m at H2
  have HWF := Lib.hid H2.out.wf
  have HO := Lib.hid H2.out.ord
  have HBL : Hid (Below w.heap.size w w2) := Lib.hid (HB1.out.trans (H2.out.below.mono HB1.out.size))
  cases hec : entAt m c with
  | none =>
    have HC1 := Lib.hid (Cand_out H2.out hec n d)
    have HEC := Lib.hid hec
    clear hec
    go_wp2_with fail
    refine HC1.out.mono ?_
    rintro e w3 ⟨rfl, hb⟩
    have H3 := Lib.hid (H2.out.next hb)
    have HL3 := Lib.hid (HBL.out.trans (hb.mono HBL.out.size))
    have HC2 := Lib.hid (Max_out H3.out HEC.out n d)
    clear hb HC1
    go_wp2_with fail
    refine HC2.out.mono ?_
    rintro e w4 ⟨rfl, hb⟩
    have HL4 := Lib.hid (HL3.out.trans (hb.mono HL3.out.size))
    clear hb HC2
    go_wp2
    go_ret
    exact ⟨rfl, HL4.out⟩
  | some e =>
    obtain ⟨c, rfl, hcl, rfl⟩ := entAt_some hec
    have HC1 := Lib.hid (Candidates H2.out hcl n d)
    have FSUB : Hid (∀ p ∈ maxM m c n d, p ∈ candM m c n d) := Lib.hid fun p hp => (max_cand hp).1
    have FAP : Hid (∀ i j (hi : i < (maxM m c n d).length) (hj : j < (maxM m c n d).length), i ≠ j → extM m (maxM m c n d)[i].1 (maxM m c n d)[j].1 = false) := Lib.hid fun i j hi hj hne => max_apart HWF.out hcl n d hi hj hne
    have FMEM : Hid (∀ p ∈ candM m c n d, ∃ (y k : Nat) (hy : y < m.length) (hk : k < m[y].c.meths.length), p = ((y : Int), (k : Int)) ∧ Pr.mEq n d m[y].c.meths[k] = true ∧ bits .and .i64 m[y].c.meths[k].flags 10 = 0 ∧ isIfaceM m (y : Int) = true ∧ extM m c y = true) := Lib.hid fun p hp => by
      obtain ⟨y, k, hy, hk, e, hyc, h1, h2⟩ := cand_mem HWF.out HO.out hcl hp
      obtain ⟨y', e', h3, h4⟩ := clo_mem HWF.out HO.out hcl _ hyc
      obtain rfl : y = y' := by omega
      refine ⟨y, k, hy, hk, e, h1, h2, ?_, (ext_iff HWF.out HO.out hcl hy).2 (.inr hyc)⟩
      unfold isIfaceM
      rw [entAt_nat hy]
      rwa [clsAt_at hy] at h4
    have FIM : Hid (∀ p ∈ maxM m c n d, IsM m p) := Lib.hid fun p hp => cand_isM HWF.out HO.out hcl (max_cand hp).1
    have FMET : Hid (∀ p ∈ candM m c n d, ((maxM m c n d).any fun q => extM m q.1 p.1) = true) := Lib.hid fun p hp => max_met HWF.out HO.out hcl n d hp
    have FLA : Hid ((candM m c n d).length ≤ 300) := Lib.hid (cand_len HWF.out hcl n d)
    have FLM : Hid ((maxM m c n d).length ≤ 300) := Lib.hid (by
      have h2 := List.length_filter_le (fun p => !hidM m (candM m c n d) p) (candM m c n d)
      have := FLA.out
      unfold maxM maxL; omega)
    clear hec
    go_wp2_with fail
    refine HC1.out.mono ?_
    rintro e w3 ⟨a1, k1, rfl, hs, hb⟩
    have H3 := Lib.hid (H2.out.next hb)
    have HS3 := Lib.hid hs
    have HL3 := Lib.hid (HBL.out.trans (hb.mono HBL.out.size))
    have HC2 := Lib.hid (Max H3.out hcl n d)
    clear hb hs HC1 HBL
    go_wp2_with fail
    refine HC2.out.mono ?_
    rintro e w4 ⟨a2, k2, rfl, hrow, hb⟩
    have H4 := Lib.hid (H3.out.next hb)
    have HA := Lib.hid (IdSl.next HS3.out hb)
    have HM := Lib.hid (ids_of_own hrow FLM.out)
    have HL4 := Lib.hid (HL3.out.trans (hb.mono HL3.out.size))
    have HCC := Lib.hid (And.intro hcl (show oneM m c n d = oneOf ((maxM m c n d).filter fun p => !absM m p) from rfl))
    have HON := Lib.hid (fun (wr : World) (hb : Below w4.heap.size w4 wr) => One (H4.out.next hb) hcl n d)
    clear hb hrow HC2 H3 HS3 HL3
    generalize maxM m c n d = most at HM FSUB FAP FMET FLM HCC FIM
    generalize candM m c n d = all at HA FSUB FMEM FMET FLA
    generalize oneM m c n d = one at HCC HON
    have hl1 := FLA.out
    have hl2 := FLM.out
    go_wp2_with fail
    go_loopg [14] most.length (fun gk u wr => ∃ i : Nat, Hid (i + gk = most.length) ∧ u = .int .i64 i ∧ Hid (Below w4.heap.size w4 wr))
    case atStart => exact ⟨0, Lib.hid (Nat.zero_add _), rfl, Lib.hid (Below.refl _ _)⟩
    case round =>
      obtain ⟨i, hi0, rfl, HL⟩ := hrel
      by_cases hi : i < most.length
      · have hi' : (i : Int) < (most.length : Int) := by omega
        obtain ⟨b, o, rfl, m0, m1⟩ := HM.out.elem hi
        have g0 := below_cell' HL.out m0
        have g1 := below_cell' HL.out m1
        have GP := Lib.hid (fun (wz : World) (hz : Below w4.heap.size w4 wz) => below_cell' hz m0)
        clear m0 m1
        have HIN := Lib.hid (fun (wz : World) (hz : Below w4.heap.size w4 wz) => RIn most[i] (FSUB.out _ (List.getElem_mem hi)) (IdSl.alike HA.out (Alike.of_below hz fun _ h => h)) (fun k hk => Nat.lt_of_lt_of_le hk hz.size))
        have FAI := Lib.hid (fun j hj hne => FAP.out i j hi hj hne)
        generalize most[i] = p at g0 g1 HIN FAI GP
        unfold idV at HIN
        go_wp2_with fail
        refine (HIN.out _ HL.out).mono ?_
        rintro e w5 ⟨rfl, hb⟩
        have HL5 : Hid (Below w4.heap.size w4 w5) := Lib.hid (HL.out.trans (hb.mono HL.out.size))
        clear hb HIN g0 g1 HL
        go_wp2_with fail
        go_loopg [15] most.length (fun gk u wr => ∃ j : Nat, Hid (j + gk = most.length) ∧ u = .int .i64 j ∧ Hid (Below w4.heap.size w4 wr))
        case atStart => exact ⟨0, Lib.hid (Nat.zero_add _), rfl, HL5⟩
        case round =>
          obtain ⟨j, hj0, rfl, HL⟩ := hrel
          by_cases hj : j < most.length
          · have hj' : (j : Int) < (most.length : Int) := by omega
            by_cases hij : i = j
            · have hb1 : ((i : Int) != (j : Int)) = false := by simp; omega
              clear hij
              go_wp2_with fail
              go_quiet (fail)
              go_wp2
              go_roundg (most.length - (j + 1))
              case measure => have := hj0.out; omega
              case rel => exact ⟨j + 1, Lib.hid (by have := hj0.out; omega), by go_num, Lib.hid (below_drewN HL.out _)⟩
            · have hb1 : ((i : Int) != (j : Int)) = true := by simp; omega
              have g0 := GP.out _ HL.out
              obtain ⟨b', o', e, k0, _⟩ := (IdSl.next HM.out HL.out).elem hj
              injection e with e
              injection e with e1 e2
              subst e1; subst e2
              have HEX := Lib.hid ((H4.out.next HL.out.drew).extends p.1 most[j].1)
              rw [FAI.out j hj hij] at HEX
              clear hij
              generalize most[j] = q at k0 HEX
              go_wp2_with fail
              go_still_tail 15, (by kernel_rfl)
              change wpList _ _ _ _ _ wr.drew
              go_wp2_with fail
              refine HEX.out.mono ?_
              rintro e w6 ⟨rfl, hb⟩
              have HL6 : Hid (Below w4.heap.size w4 w6) := Lib.hid (HL.out.drew.trans (hb.mono HL.out.size))
              clear hb g0 k0 HEX
              go_wp2
              go_roundg (most.length - (j + 1))
              case measure => have := hj0.out; omega
              case rel => exact ⟨j + 1, Lib.hid (by have := hj0.out; omega), by go_num, HL6⟩
          · go_wp2
            go_roundg (most.length - (i + 1))
            case measure => have := hi0.out; omega
            case rel => exact ⟨i + 1, Lib.hid (by have := hi0.out; omega), by go_num, HL⟩
      · clear FAP FSUB
        go_wp2_with fail
        clear hi hi0
        go_loopg [16] all.length (fun gk u wr => ∃ i : Nat, Hid (i + gk = all.length) ∧ u = .int .i64 i ∧ Hid (Below w4.heap.size w4 wr))
        case atStart => exact ⟨0, Lib.hid (Nat.zero_add _), rfl, HL⟩
        case round =>
          clear HL
          obtain ⟨i, hi0, rfl, HL⟩ := hrel
          by_cases hi : i < all.length
          · have hi' : (i : Int) < (all.length : Int) := by omega
            obtain ⟨b, o, rfl, m0, m1⟩ := HA.out.elem hi
            have g0 := below_cell' HL.out m0
            have g1 := below_cell' HL.out m1
            have GP := Lib.hid (fun (wz : World) (hz : Below w4.heap.size w4 wz) => below_cell' hz m0)
            clear m0 m1
            obtain ⟨y, k, hy, hk, hp, hq1, hq2, hq3, hq4⟩ := FMEM.out _ (List.getElem_mem hi)
            have HMT := Lib.hid (FMET.out _ (List.getElem_mem hi))
            rw [hp] at g0 g1 GP HMT
            clear hp
            have HME := Lib.hid (Method_in (H4.out.next HL.out).hw (H4.out.next HL.out).live (entAt_nat hy) hk)
            have HEQ : Hid (((m[y].c.meths[k].name.toList == n.toList) = true ∧ (m[y].c.meths[k].desc.toList == d.toList) = true) ∧ bits .and .i64 m[y].c.meths[k].flags 10 = 0) := Lib.hid (by
              unfold Pr.mEq at hq1
              rw [Bool.and_eq_true] at hq1
              exact ⟨hq1, hq2⟩)
            have HIE := Lib.hid (And.intro hq3 hq4)
            clear hq1 hq2 hq3 hq4
            go_wp2_with fail
            refine HME.out.mono ?_
            rintro e w5 ⟨cs', rfl, hmi, hb⟩
            obtain ⟨cv, rfl, _, _, _, _, _, hcv⟩ := hmi
            obtain ⟨ad, ck, rfl, _⟩ := hcv
            have HL5 : Hid (Below w4.heap.size w4 w5) := Lib.hid (HL.out.trans (hb.mono HL.out.size))
            clear hb HME g0 g1
            have hn1 := HEQ.out.1.1
            have hn2 : (m[y].c.meths[k].name.toList != n.toList) = false := by rw [bne, hn1]; rfl
            have hd1 := HEQ.out.1.2
            have hd2 : (m[y].c.meths[k].desc.toList != d.toList) = false := by rw [bne, hd1]; rfl
            have hf1 : (bits .and .i64 m[y].c.meths[k].flags 10 != 0) = false := by rw [HEQ.out.2]; rfl
            have HLA : Hid (Below w4.heap.size w4 (w5.alloc (.cells #[.string m[y].c.meths[k].name, .string m[y].c.meths[k].desc, .int .i64 m[y].c.meths[k].flags, .int .i64 m[y].c.meths[k].locals, .int .i64 m[y].c.meths[k].stack, .slice ad m[y].c.meths[k].code.length ck] 57))) := Lib.hid (HL5.out.alloc HL5.out.size _)
            have g0 := GP.out _ HLA.out
            generalize m[y].c.meths[k].name = nn at hn1 hn2 HLA g0
            generalize m[y].c.meths[k].desc = dd at hd1 hd2 HLA g0
            generalize m[y].c.meths[k].flags = ff at hf1 HLA g0
            have HII := Lib.hid ((H4.out.next HLA.out).isIface (y : Int))
            rw [HIE.out.1] at HII
            clear HEQ HL5
            go_wp2_with fail
            refine HII.out.mono ?_
            rintro e w6 ⟨rfl, hb⟩
            have HL6 : Hid (Below w4.heap.size w4 w6) := Lib.hid (HLA.out.trans (hb.mono HLA.out.size))
            clear hb HII g0 HLA hn1 hn2 hd1 hd2 hf1
            have g0 := GP.out _ HL6.out
            have HXX := Lib.hid ((H4.out.next HL6.out).extends (c : Int) (y : Int))
            rw [HIE.out.2] at HXX
            go_wp2_with fail
            refine HXX.out.mono ?_
            rintro e w7 ⟨rfl, hb⟩
            have HL7 : Hid (Below w4.heap.size w4 w7) := Lib.hid (HL6.out.trans (hb.mono HL6.out.size))
            clear hb HXX g0 HL6 HL HIE
            have HY := Lib.hid (And.intro hy hk)
            go_wp2_with fail

            go_loopg [19, 20] most.length (fun gk um uj wr => ∃ j : Nat, Hid (j + gk = most.length) ∧ um = .bool ((most.take j).any fun q => extM m q.1 y) ∧ uj = .int .i64 j ∧ Hid (Below w4.heap.size w4 wr))
            case atStart => exact ⟨0, Lib.hid (Nat.zero_add _), rfl, rfl, HL7⟩
            case round =>
              clear HL7
              obtain ⟨j, hj0, rfl, rfl, HL⟩ := hrel
              by_cases hj : j < most.length
              · have hj' : (j : Int) < (most.length : Int) := by omega
                have HNX : Hid (((most.take (j + 1)).any fun q => extM m q.1 y) = (((most.take j).any fun q => extM m q.1 y) || extM m most[j].1 y)) := Lib.hid (by
                  rw [List.take_succ_eq_append_getElem hj, List.any_append]
                  simp)
                have g0 := GP.out _ HL.out
                obtain ⟨b', o', rfl, k0, _⟩ := (IdSl.next HM.out HL.out).elem hj
                have HEX := Lib.hid ((H4.out.next HL.out.drew).extends most[j].1 (y : Int))
                generalize hX : ((most.take j).any fun q => extM m q.1 y) = X at HNX
                clear hX
                cases X
                · generalize extM m most[j].1 y = Z at HNX HEX
                  generalize most[j] = q at k0 HEX
                  go_wp2_with fail
                  go_still_tail 13, (by kernel_rfl)
                  change wpList _ _ _ _ _ wr.drew
                  go_wp2_with fail
                  refine HEX.out.mono ?_
                  rintro e w8 ⟨rfl, hb⟩
                  have HL8 : Hid (Below w4.heap.size w4 w8) := Lib.hid (HL.out.drew.trans (hb.mono HL.out.size))
                  clear hb g0 k0 HEX
                  cases Z
                  · go_wp2
                    go_roundg (most.length - (j + 1))
                    case measure => have := hj0.out; omega
                    case rel => exact ⟨j + 1, Lib.hid (by have := hj0.out; omega), by rw [HNX.out]; rfl, by go_num, HL8⟩
                  · go_wp2
                    go_roundg (most.length - (j + 1))
                    case measure => have := hj0.out; omega
                    case rel => exact ⟨j + 1, Lib.hid (by have := hj0.out; omega), by rw [HNX.out]; rfl, by go_num, HL8⟩
                · rw [Bool.true_or] at HNX
                  clear HEX
                  go_wp2_with fail
                  go_quiet (fail)
                  go_wp2
                  go_roundg (most.length - (j + 1))
                  case measure => have := hj0.out; omega
                  case rel => exact ⟨j + 1, Lib.hid (by have := hj0.out; omega), by rw [HNX.out], by go_num, Lib.hid (below_drewN HL.out _)⟩
              · have hje : j = most.length := by have := hj0.out; omega
                subst hje
                have HAT : Hid (((most.take most.length).any fun q => extM m q.1 y) = true) := Lib.hid (by rw [List.take_length]; exact HMT.out)
                rw [HAT.out]
                go_wp2
                go_roundg (all.length - (i + 1))
                case measure => have := hi0.out; omega
                case rel => exact ⟨i + 1, Lib.hid (by have := hi0.out; omega), by go_num, HL⟩
          · clear FMET FMEM
            have HO1 := Lib.hid (HON.out wr HL.out)
            unfold idV at HO1
            go_wp2_with fail
            refine HO1.out.mono ?_
            rintro e w5 ⟨rfl, hb⟩
            have HL5 : Hid (Below w4.heap.size w4 w5) := Lib.hid (HL.out.trans (hb.mono HL.out.size))
            have HLA : Hid (Below w4.heap.size w4 (w5.alloc (.cells #[.int .i64 one.1.1, .int .i64 one.1.2] 54))) := Lib.hid (HL5.out.alloc HL5.out.size _)
            have HID : Hid ((w5.alloc (.cells #[.int .i64 one.1.1, .int .i64 one.1.2] 54)).cell? ⟨w5.heap.size, 0, none⟩ = some (.int .i64 one.1.1) ∧ (w5.alloc (.cells #[.int .i64 one.1.1, .int .i64 one.1.2] 54)).cell? ⟨w5.heap.size, 1, none⟩ = some (.int .i64 one.1.2)) := Lib.hid ⟨World.cell?_alloc_new .., World.cell?_alloc_new ..⟩
            clear hb HO1 HON HL5 HL
            go_wp2_with fail
            generalize w5.alloc (.cells #[.int .i64 one.1.1, .int .i64 one.1.2] 54) = w6 at HLA HID
            generalize w5.heap.size = qo at HID
            clear hi hi0
            go_loopg [23, 24] most.length (fun gk uc ui wr => ∃ i : Nat, Hid (i + gk = most.length) ∧ uc = .int .i64 ((most.take i).filter fun p => !absM m p).length ∧ ui = .int .i64 i ∧ Hid (Below w6.heap.size w6 wr))
            case atStart => exact ⟨0, Lib.hid (Nat.zero_add _), rfl, rfl, Lib.hid (Below.refl _ _)⟩
            case round =>
              obtain ⟨i, hi0, rfl, rfl, HL⟩ := hrel
              have HW : Hid (Below w4.heap.size w4 wr) := Lib.hid (HLA.out.trans (HL.out.mono HLA.out.size))
              by_cases hi : i < most.length
              · have hi' : (i : Int) < (most.length : Int) := by omega
                have HCN : Hid (((most.take (i + 1)).filter fun p => !absM m p).length = ((most.take i).filter fun p => !absM m p).length + (if absM m most[i] = true then 0 else 1)) := Lib.hid (by
                  rw [List.take_succ_eq_append_getElem hi, List.filter_append, List.length_append]
                  congr 1
                  cases h : absM m most[i] <;> simp [h])
                have hcn : ((most.take i).filter fun p => !absM m p).length ≤ 300 := by
                  have h1 := List.length_filter_le (fun p => !absM m p) (most.take i)
                  have h2 : (most.take i).length ≤ most.length := by rw [List.length_take]; omega
                  omega
                have HONE : Hid (one.2 = 0 → absM m most[i] = false → one.1 = most[i]) := Lib.hid fun h1 h2 => one_is HCC.out.2 h1 (List.mem_filter.2 ⟨List.getElem_mem hi, by rw [h2]; rfl⟩)
                obtain ⟨y, k, hy, hp, hk⟩ := FIM.out _ (List.getElem_mem hi)
                have HFL := Lib.hid (flM_at hy hk)
                obtain ⟨b, o, rfl, g0, g1⟩ := (IdSl.next HM.out HW.out).elem hi
                have HEL := Lib.hid (fun (wz : World) (hz : Below w4.heap.size w4 wz) => (IdSl.next HM.out hz).elem hi)
                rw [hp] at g0 g1 HCN HONE
                have HME := Lib.hid (Method_in (H4.out.next HW.out).hw (H4.out.next HW.out).live (entAt_nat hy) hk)
                have HPP := Lib.hid hp
                clear hp
                generalize ((most.take i).filter fun p => !absM m p).length = cn at HCN hcn
                go_wp2_with fail
                refine HME.out.mono ?_
                rintro e w7 ⟨cs', rfl, hmi, hb⟩
                obtain ⟨cv, rfl, _, _, _, _, _, hcv⟩ := hmi
                obtain ⟨ad, ck, rfl, _⟩ := hcv
                have HL7 : Hid (Below w6.heap.size w6 (w7.alloc (.cells #[.string m[y].c.meths[k].name, .string m[y].c.meths[k].desc, .int .i64 m[y].c.meths[k].flags, .int .i64 m[y].c.meths[k].locals, .int .i64 m[y].c.meths[k].stack, .slice ad m[y].c.meths[k].code.length ck] 57))) := Lib.hid ((HL.out.trans (hb.mono HL.out.size)).alloc (HL.out.trans (hb.mono HL.out.size)).size _)
                clear hb HME g0 g1
                rw [show absM m ((y : Int), (k : Int)) = (bits .and .i64 m[y].c.meths[k].flags 1024 != 0) by unfold absM; rw [HFL.out]] at HCN HONE
                clear HFL
                have hcn1 : (((cn : Nat) : Int) + 1) = ((cn + 1 : Nat) : Int) := by omega
                generalize hA : (bits .and .i64 m[y].c.meths[k].flags 1024 != 0) = A at HCN HONE
                have hA2 : (bits .and .i64 m[y].c.meths[k].flags 1024 == 0) = !A := by rw [← hA, bne, Bool.not_not]
                generalize m[y].c.meths[k].flags = ff at hA hA2 HL7
                have HW7 : Hid (Below w4.heap.size w4 _) := Lib.hid (HLA.out.trans (HL7.out.mono HLA.out.size))
                clear hA hcn1
                cases A
                · rw [Bool.not_false] at hA2
                  by_cases hg : one.2 = 0
                  · have hg2 : (one.2 == 0) = true := by simpa using hg
                    have HE1 := Lib.hid (HONE.out hg rfl)
                    have o0 := below_cell' HL7.out HID.out.1
                    have o1 := below_cell' HL7.out HID.out.2
                    rw [show one.1.1 = (y : Int) by rw [HE1.out]] at o0
                    rw [show one.1.2 = (k : Int) by rw [HE1.out]] at o1
                    obtain ⟨b2, o2, e2, g0, g1⟩ := HEL.out _ HW7.out
                    injection e2 with e2
                    injection e2 with e2 e3
                    subst e2; subst e3
                    rw [HPP.out] at g0 g1
                    have HI := Lib.hid (RID (y : Int) (k : Int) (y : Int) (k : Int))
                    rw [beq_self_eq_true, beq_self_eq_true] at HI
                    clear HONE hg
                    go_wp2_with fail
                    generalize w7.alloc (.cells #[.string m[y].c.meths[k].name, .string m[y].c.meths[k].desc, .int .i64 ff, .int .i64 m[y].c.meths[k].locals, .int .i64 m[y].c.meths[k].stack, .slice ad m[y].c.meths[k].code.length ck] 57) = w8 at HL7 HW7 o0 o1 g0 g1
                    go_still_tail 8, (by kernel_rfl)
                    change wpList _ _ _ _ _ w8.drew
                    go_wp2_with fail
                    refine (HI.out _).mono ?_
                    rintro e w9 ⟨rfl, hb⟩
                    have HL9 : Hid (Below w6.heap.size w6 w9) := Lib.hid (HL7.out.drew.trans (hb.mono HL7.out.size))
                    clear hb o0 o1 g0 g1 HI
                    go_wp2
                    go_roundg (most.length - (i + 1))
                    case measure => have := hi0.out; omega
                    case rel => exact ⟨i + 1, Lib.hid (by have := hi0.out; omega), by rw [HCN.out]; rfl, by go_num, HL9⟩
                  · have hg2 : (one.2 == 0) = false := by simpa using hg
                    clear HONE hg
                    go_wp2_with fail
                    go_quiet (fail)
                    go_wp2
                    go_roundg (most.length - (i + 1))
                    case measure => have := hi0.out; omega
                    case rel => exact ⟨i + 1, Lib.hid (by have := hi0.out; omega), by rw [HCN.out]; rfl, by go_num, Lib.hid (below_drewN HL7.out _)⟩
                · rw [Bool.not_true] at hA2
                  go_wp2
                  go_roundg (most.length - (i + 1))
                  case measure => have := hi0.out; omega
                  case rel => exact ⟨i + 1, Lib.hid (by have := hi0.out; omega), by rw [HCN.out]; rfl, by go_num, HL7⟩
              · have hje : i = most.length := by have := hi0.out; omega
                have HT : Hid ((most.take i).filter (fun p => !absM m p) = most.filter fun p => !absM m p) := Lib.hid (by rw [hje, List.take_length])
                have hcn : (most.filter fun p => !absM m p).length ≤ 300 := by
                  have h1 := List.length_filter_le (fun p => !absM m p) most
                  omega
                have HF : Hid (Below w.heap.size w wr) := Lib.hid (HL4.out.trans (HW.out.mono HL4.out.size))
                have hone := HCC.out.2
                rw [HT.out]
                clear hje HCC HT
                generalize (most.filter fun p => !absM m p) = C at hone hcn
                subst hone
                clear HID
                rcases C with _ | ⟨p, _ | ⟨p', r⟩⟩
                · simp only [oneOf, List.length_nil]
                  go_wp2
                  go_ret
                  exact ⟨rfl, HF.out⟩
                · simp only [oneOf, List.length_cons, List.length_nil, Nat.zero_add]
                  go_wp2
                  go_ret
                  exact ⟨rfl, HF.out⟩
                · have e1 : (((p :: p' :: r).length : Int) == 1) = false := by simp; omega
                  have e2 : (((p :: p' :: r).length : Int) == 0) = false := by simp; omega
                  have e3 : decide ((1 : Int) < ((p :: p' :: r).length : Int)) = true := decide_eq_true (by simp; omega)
                  simp only [oneOf]
                  generalize (p :: p' :: r).length = len at e1 e2 e3 hcn ⊢
                  go_wp2
                  go_ret
                  exact ⟨rfl, HF.out⟩
end Go.Proofs.YtmpkdgankficeaaDoor.Hi
