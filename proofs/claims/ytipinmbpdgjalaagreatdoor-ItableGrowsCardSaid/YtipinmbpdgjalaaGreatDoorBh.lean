/- ItableGrows: the walk. -/
import Derived.Test.YtipinmbpdgjalaaGreatDoorBg
set_option maxRecDepth 100000
set_option maxHeartbeats 8000000
set_option linter.unusedVariables false
set_option linter.unusedSimpArgs false
namespace Go.Proofs.YtipinmbpdgjalaaGreatDoor.Hi
open Go.RowKit Go.Shelf Go.Sort Bs

theorem Built.laterI {B bw : Nat} {w0 w2 w4 w5 : World} {m : List EntM} (h : Built B bw w0 w2 m) (hb : Below w2.heap.size w2 w4) (c : ClsM) (hw' : HW (fun k => (B ≤ k ∧ k < w2.heap.size) ∨ (w4.heap.size ≤ k ∧ k < w5.heap.size)) bw w5 (defM m c)) (hc : Chg (fun k => B ≤ k ∧ k < w2.heap.size) w4 w5) :
    Built B bw w0 w5 (defM m c) where
  hw := hw'.mono fun k hk => by
    have := hc.size
    have := hb.size
    have := h.le
    rcases hk with hk | hk
    · exact ⟨hk.1, by omega⟩
    · exact ⟨by omega, hk.2⟩
  ord := defM_ord h.wf h.ord c
  below := (h.below.trans (hb.mono h.below.size)).trans (hc.below (Nat.le_trans h.below.size hb.size) fun k hk hf => by have := h.le; omega)
  le := ⟨h.le.1, Nat.le_trans h.le.2 (Nat.le_trans hb.size hc.size)⟩
theorem superI {m : List EntM} (hw : WFm m) (ho : OrdM m) {c : Nat} (hc : c < m.length) (hi : isIfaceM m (c : Int) = false) : superM m (c : Int) = (0, 6) ∨ ∃ q : Nat, superM m (c : Int) = ((q : Int), 0) ∧ ∃ hq : q < m.length, isIfaceM m (q : Int) = false := by
  rcases Nat.eq_zero_or_pos c with rfl | h0
  · exact .inl (super_zero hw ho)
  · obtain ⟨p, h1, h2, hp, _⟩ := par hw hc h0
    refine .inr ⟨p, ?_, hp, ?_⟩
    · unfold superM
      rw [entAt_nat hc]
      simp only
      rw [if_neg (by omega), h2]
    · have := ch_classes hw ho hc hi (p : Int) (by rw [ch_step hw hc h0 h2 hp]; exact List.mem_cons_of_mem _ (List.mem_of_getElem? (ch_head hw hp)))
      exact this
theorem mlI_later {m : List EntM} (h : MlA m) (c : ClsM) : MlA (defM m c) := mlA_step h c

theorem ItableGrows (a : Option Addr) (cp : Nat) (xs : List ClsM) (cs : List Value) (c : ClsM) (d : Int) (hwd : (Lit.int .i64 d).wf = true) (w : World) (hx : ClsSl (fun b => b < w.heap.size) w (.slice a xs.length cp) xs) (hcl : ClsIs (fun b => b < w.heap.size) w cs c) (he : Lf.Env w) :
    Calls Tryz.prog 7 #[.slice a xs.length cp, .agg cs.toArray, .int .i64 d] w fun e w' => e = .returned (.bool true) ∧ Below w.heap.size w w' := by
  have HEW := Lib.hid he
  have HCL0 := Lib.hid hcl
  obtain ⟨iv, mv, rfl, p1, _, hi, _, _, hm⟩ := hcl
  obtain ⟨ia, ic, rfl, _⟩ := id hi
  obtain ⟨ma, mc, rfl, _⟩ := id hm
  rw [show [Value.string c.name, .string c.super, .slice ia c.ifaces.length ic, .int .i64 c.flags, .int .i64 c.loader, .slice ma c.meths.length mc].toArray = #[Value.string c.name, .string c.super, .slice ia c.ifaces.length ic, .int .i64 c.flags, .int .i64 c.loader, .slice ma c.meths.length mc] from rfl]
  obtain ⟨wa, hwa⟩ : ∃ wa, (w.alloc (.cells #[.string c.name, .string c.super, .slice ia c.ifaces.length ic, .int .i64 c.flags, .int .i64 c.loader, .slice ma c.meths.length mc] 26)) = wa := ⟨_, rfl⟩
  have hba : Below w.heap.size w wa := by rw [← hwa]; exact (Below.refl _ _).alloc (Nat.le_refl _) _
  have hbox : wa.cell? ⟨w.heap.size, 0, none⟩ = some (.string c.name) ∧ wa.cell? ⟨w.heap.size, 1, none⟩ = some (.string c.super) ∧ wa.cell? ⟨w.heap.size, 2, none⟩ = some (.slice ia c.ifaces.length ic) ∧ wa.cell? ⟨w.heap.size, 3, none⟩ = some (.int .i64 c.flags) ∧ wa.cell? ⟨w.heap.size, 4, none⟩ = some (.int .i64 c.loader) ∧ wa.cell? ⟨w.heap.size, 5, none⟩ = some (.slice ma c.meths.length mc) := by
    rw [← hwa]
    exact ⟨World.cell?_alloc_new .., World.cell?_alloc_new .., World.cell?_alloc_new .., World.cell?_alloc_new .., World.cell?_alloc_new .., World.cell?_alloc_new ..⟩
  have HBOX := Lib.hid hbox
  have HX := Lib.hid (hx.nextO hba)
  have HE := Lib.hid (he.below hba)
  have HCL := Lib.hid (HCL0.out.next hba)
  have HB0 := Lib.hid hba
  have HAW := Lib.hid (awake14 wa)
  clear hx he hwd hba hbox hi hm p1 HCL0
  go_enter Tryz.func7, Tryz.ntmps7
  go_wp2_with fail
  try rw [hwa]
  clear hwa
  refine HAW.out.mono ?_
  rintro e w1 ⟨rfl, hb1⟩
  have HB1 := Lib.hid (HB0.out.trans (hb1.mono HB0.out.size))
  have HBU := Lib.hid (built14 a cp xs w1 (HX.out.nextO hb1) (HE.out.below hb1))
  have HE1 := Lib.hid (HE.out.below hb1)
  have HCL1 := Lib.hid (HCL.out.next hb1)
  have HBOX1 := Lib.hid (And.intro (below_cell' hb1 HBOX.out.1) (And.intro (below_cell' hb1 HBOX.out.2.1) (And.intro (below_cell' hb1 HBOX.out.2.2.1) (And.intro (below_cell' hb1 HBOX.out.2.2.2.1) (And.intro (below_cell' hb1 HBOX.out.2.2.2.2.1) (below_cell' hb1 HBOX.out.2.2.2.2.2))))))
  clear hb1 HB0 HX HE HAW HCL HBOX
  go_wp2_with fail
  refine HBU.out.mono ?_
  rintro e w2 ⟨rfl, h2⟩
  have H2 := Lib.hid h2
  have hb12 := h2.below
  have HE2 := Lib.hid (HE1.out.below hb12)
  have HCL2 := Lib.hid (HCL1.out.next hb12)
  have HSZ : Hid (w.heap.size < w1.heap.size) := Lib.hid (World.block_lt_of_cell? _ _ HBOX1.out.1)
  have HBOX2 := Lib.hid (And.intro (below_cell' hb12 HBOX1.out.1) (And.intro (below_cell' hb12 HBOX1.out.2.1) (And.intro (below_cell' hb12 HBOX1.out.2.2.1) (And.intro (below_cell' hb12 HBOX1.out.2.2.2.1) (And.intro (below_cell' hb12 HBOX1.out.2.2.2.2.1) (below_cell' hb12 HBOX1.out.2.2.2.2.2))))))
  have HB2 := Lib.hid (HB1.out.trans (hb12.mono HB1.out.size))
  have HML := Lib.hid (mlA_defs xs)
  clear h2 hb12 HBU HB1 HE1 HCL1 HBOX1
  generalize w1.heap.size = B at H2 HSZ
  generalize defs xs = m at H2 HML
  have HWF := Lib.hid H2.out.wf
  have HO := Lib.hid H2.out.ord
  have HBD := Lib.hid (IBuild H2.out HML.out d)
  rcases itb_cases m d with hit | hit | ⟨r, rfl, hr, hi, hit⟩
  case inr.inr =>
    have HLA : Hid (itbM (defM m c) (r : Int) = ((rootL m (clo m r)).map (etyM m r), 0)) := Lib.hid ((itb_later HWF.out HO.out c hr hi).trans hit)
    have HRT := Lib.hid (fun wr (hb : Below w2.heap.size w2 wr) => by have := IRoots (H2.out.next hb) HML.out (r : Int); rw [rootM_ok hr hi] at this; exact this)
    have HLL : Hid ((rootL m (clo m r)).length ≤ 12040) := Lib.hid (by
      have := rootM_len HWF.out HO.out HML.out (r : Int)
      rw [rootM_ok hr hi] at this
      exact this)
    have HSP := Lib.hid (fun wr (hb : Below w2.heap.size w2 wr) => (H2.out.next hb).super (r : Int))
    have HSC := superI HWF.out HO.out hr hi
    have HPR : Hid (∀ q : Nat, superM m (r : Int) = ((q : Int), 0) → ∀ hq : q < m.length, isIfaceM m (q : Int) = false → ∃ t, rootL m (clo m r) = rootL m (clo m q) ++ t) := Lib.hid (fun q h _ _ => root_pre HWF.out HO.out hr h)
    rw [hit] at HBD
    dsimp only at HBD HRT
    have hml : ((rootL m (clo m r)).map (etyM m r)).length = (rootL m (clo m r)).length := List.length_map ..
    obtain ⟨L, hL⟩ : ∃ L, rootL m (clo m r) = L := ⟨_, rfl⟩
    rw [hL] at HBD HRT HLL HLA HPR hml
    rw [hml] at HBD
    obtain ⟨T, hT⟩ : ∃ T, L.map (etyM m r) = T := ⟨_, rfl⟩
    rw [hT] at HBD HLA hml
    have HLT := Lib.hid hml
    clear hit hL hT hml
    have hLl : (L.length : Int) ≤ 12040 := by have := HLL.out; omega
    go_wp2_with fail
    refine HBD.out.mono ?_
    rintro _ w3 ⟨ra, rc, rfl, hrow, hb⟩
    rw [← HLT.out] at hrow
    have HS3 : Hid (EtySl (fun b => w2.heap.size ≤ b ∧ b < w3.heap.size) w3 (.slice ra T.length rc) T) := Lib.hid (etySl_row hrow (by have := HLL.out; have := HLT.out; omega))
    have HRX := Lib.hid (HRT.out w3 hb)
    have HB3 := Lib.hid hb
    clear hb hrow HBD
    go_wp2_with fail
    refine HRX.out.mono ?_
    rintro _ w4 ⟨ra4, rc4, rfl, hrow, hb⟩
    have HR4 : Hid (IdSl (fun b => b < w4.heap.size) w4 (.slice ra4 L.length rc4) L) := Lib.hid (Sl.of_own (css := L.map idCells) hrow (by simp) rfl (by intro cs h; obtain ⟨p, _, rfl⟩ := List.mem_map.1 h; rfl) (fun i h => by rw [List.getElem_map]; rfl) (by have := HLL.out; omega) _ (fun b hb => (own_live hrow hb).2))
    have HB4 := Lib.hid (HB3.out.trans (hb.mono HB3.out.size))
    have HS4 : Hid (EtySl (fun b => w2.heap.size ≤ b ∧ b < w3.heap.size) w4 (.slice ra T.length rc) T) := Lib.hid (HS3.out.carry (Alike.of_below hb fun k h => h.2))
    have HSX := Lib.hid (HSP.out w4 HB4.out)
    have HZ4 : Hid (w3.heap.size ≤ w4.heap.size) := Lib.hid hb.size
    clear hb hrow HRX HS3 HB3 HSP
    go_wp2_with fail
    refine HSX.out.mono ?_
    rintro e _ ⟨rfl, rfl⟩
    clear HSX
    obtain ⟨⟨sq, se⟩, hsq⟩ : ∃ R, superM m (r : Int) = R := ⟨_, rfl⟩
    rw [hsq] at HSC HPR ⊢
    have HSC := Lib.hid HSC
    clear hsq
    go_upto_if 63 with fail
    go_cut [14, 15] from 62 to 87 (fun s14 s15 wy => Hid (Below w4.heap.size w4 wy))
    case first =>
      rcases HSC.out with h | ⟨q, h, hq, hqi⟩
      · injection h with h1 h2
        subst h1; subst h2
        clear HSC HPR HLA HRT
        go_wp2
        go_meet
        exact Lib.hid (Below.refl _ _)
      · injection h with h1 h2
        subst h1; subst h2
        obtain ⟨t, ht⟩ := HPR.out q rfl hq hqi
        have HRQ := IRoots (H2.out.next HB4.out) HML.out (q : Int)
        rw [rootM_ok hq hqi] at HRQ
        dsimp only at HRQ
        generalize rootL m (clo m q) = A at ht HRQ
        have HRQ := Lib.hid HRQ
        have hAl : A.length ≤ L.length := by rw [ht, List.length_append]; omega
        have hAi : (A.length : Int) ≤ (L.length : Int) := by omega
        have hAd : decide (L.length < A.length) = false := decide_eq_false (by omega)
        have HT := Lib.hid ht
        clear HSC HPR HLA HRT hq hqi ht
        go_wp2_with fail
        refine HRQ.out.mono ?_
        rintro _ w5 ⟨ra5, rc5, rfl, hrow, hb⟩
        have HA5 : IdSl (fun b => b < w5.heap.size) w5 (.slice ra5 A.length rc5) A := Sl.of_own (css := A.map idCells) hrow (by simp) rfl (by intro cs h; obtain ⟨p, _, rfl⟩ := List.mem_map.1 h; rfl) (fun i h => by rw [List.getElem_map]; rfl) (by have := HLL.out; omega) _ (fun b hb => (own_live hrow hb).2)
        have HR5 := (HR4.out.next hb).take HT.out
        have HSI := Lib.hid (RIDs HA5 HR5 (fun k h => h) (fun k h => h))
        have hcap : L.length ≤ rc4 := by obtain ⟨_, _, e, h, _⟩ := HR4.out; injection e with _ _ e; omega
        have hcap' : (A.length : Int) ≤ (rc4 : Int) := by omega
        have HB5 := Lib.hid hb
        clear hb hrow HRQ HA5 HR5
        go_wp2_with fail
        try rw [hAd]
        refine HSI.out.mono ?_
        rintro _ w6 ⟨rfl, hb⟩
        have HB6 := Lib.hid (HB5.out.trans (hb.mono HB5.out.size))
        clear hb HSI HB5
        go_wp2
        go_meet
        exact HB6
    case rest =>
      have hbc := hcut.out
      have hrw := HB4.out.trans (hbc.mono HB4.out.size)
      have HRW := Lib.hid hrw
      have s0 := below_cell' hrw HBOX2.out.1
      have s1 := below_cell' hrw HBOX2.out.2.1
      have s2 := below_cell' hrw HBOX2.out.2.2.1
      have s3 := below_cell' hrw HBOX2.out.2.2.2.1
      have s4 := below_cell' hrw HBOX2.out.2.2.2.2.1
      have s5 := below_cell' hrw HBOX2.out.2.2.2.2.2
      have HZR : Hid (w3.heap.size ≤ wc.heap.size) := Lib.hid (by have := HZ4.out; have := hbc.size; omega)
      have HSR : Hid (EtySl (fun b => w2.heap.size ≤ b ∧ b < w3.heap.size) wc (.slice ra T.length rc) T) := Lib.hid (HS4.out.carry (Alike.of_below hbc fun _ h => Nat.lt_of_lt_of_le h.2 HZ4.out))
      have HDF := Lib.hid (Define (H2.out.hw.alike hrw.size (Alike.of_below hrw H2.out.live)) HO.out.short (HCL2.out.next hrw) (fun k hk => hk) (fun k hk => Nat.lt_of_lt_of_le hk.2 hrw.size) (HE2.out.below hrw))
      rw [show [Value.string c.name, .string c.super, .slice ia c.ifaces.length ic, .int .i64 c.flags, .int .i64 c.loader, .slice ma c.meths.length mc].toArray = #[Value.string c.name, .string c.super, .slice ia c.ifaces.length ic, .int .i64 c.flags, .int .i64 c.loader, .slice ma c.meths.length mc] from rfl] at HDF
      clear hcut hbc hrw HS4 HZ4 HB4 HBOX2 HR4 HPR HSC HRT
      rename_i hK0
      with_reducible refine hK0 _ _ ?_
      clear hK0
      go_wp2_with fail
      refine HDF.out.mono ?_
      rintro e w5 ⟨rfl, hw5, hc5⟩
      have H5 := Lib.hid (H2.out.laterI HRW.out c hw5 hc5)
      have HS5 : Hid (EtySl (fun b => w2.heap.size ≤ b ∧ b < w3.heap.size) w5 (.slice ra T.length rc) T) := Lib.hid (HSR.out.carry (Alike.of_chg hc5 fun k hk => ⟨by have := HZR.out; omega, fun h => by omega⟩))
      have hb5 : Below w.heap.size w w5 := (HB2.out.trans (HRW.out.mono HB2.out.size)).trans (hc5.below (Nat.le_trans HB2.out.size HRW.out.size) (fun k hk hf => by have := HSZ.out; omega))
      have HB5 := Lib.hid hb5
      have HZ5 : Hid (w3.heap.size ≤ w5.heap.size) := Lib.hid (by have := HZR.out; have := hc5.size; omega)
      have HBX := IBuild H5.out (mlI_later HML.out c) (r : Int)
      rw [HLA.out] at HBX
      dsimp only at HBX
      have HBY := Lib.hid HBX
      have hTl : (T.length : Int) ≤ 12040 := by have := HLT.out; omega
      rw [← HLT.out]
      clear hw5 hc5 hb5 HDF s0 s1 s2 s3 s4 s5 HSR HZR HBX HLA
      go_wp2_with fail
      refine HBY.out.mono ?_
      rintro _ w6 ⟨rb, rd, rfl, hrow, hb⟩
      have HSS := Lib.hid (REntries (HS5.out.carry (Alike.of_below hb fun k h => by have := HZ5.out; omega)) (etySl_row hrow (by omega)) (fun k h => by have := HZ5.out; have := hb.size; omega) (fun k h => h.2))
      have HB6 := Lib.hid (HB5.out.trans (hb.mono HB5.out.size))
      clear hb hrow HBY HS5 HB5
      go_wp2_with fail
      refine HSS.out.mono ?_
      rintro _ w7 ⟨rfl, hb⟩
      have HB7 := Lib.hid (HB6.out.trans (hb.mono HB6.out.size))
      clear hb HSS
      go_wp2
      go_ret
      exact ⟨rfl, HB7.out⟩
  all_goals
    rw [hit] at HBD
    dsimp only at HBD
    clear hit HBOX2 HCL2
    go_wp2_with fail
    refine HBD.out.mono ?_
    rintro _ w3 ⟨ra, rc, rfl, hrow, hb⟩
    have HB3 := Lib.hid (HB2.out.trans (hb.mono HB2.out.size))
    clear hb hrow HBD
    go_wp2
    go_ret
    exact ⟨rfl, HB3.out⟩
end Go.Proofs.YtipinmbpdgjalaaGreatDoor.Hi
