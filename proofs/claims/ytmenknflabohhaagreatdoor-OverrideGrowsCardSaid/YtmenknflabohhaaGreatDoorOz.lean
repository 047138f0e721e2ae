/- OverrideGrows: the walk. -/
import Derived.Test.YtmenknflabohhaaGreatDoorOl
set_option maxRecDepth 100000
set_option maxHeartbeats 8000000
set_option linter.unusedVariables false
set_option linter.unusedSimpArgs false
namespace Go.Proofs.YtmenknflabohhaaGreatDoor.Hi
open Go.RowKit Bs

theorem Built.laterO {B bw : Nat} {w0 w2 w4 w5 : World} {m : List EntM} (h : Built B bw w0 w2 m) (hb : Below w2.heap.size w2 w4) (c : ClsM) (hw' : HW (fun k => (B ≤ k ∧ k < w2.heap.size) ∨ (w4.heap.size ≤ k ∧ k < w5.heap.size)) bw w5 (defM m c)) (hc : Chg (fun k => B ≤ k ∧ k < w2.heap.size) w4 w5) :
    Built B bw w0 w5 (defM m c) where
  hw := hw'.mono fun k hk => by
    have := hc.size
    have := hb.size
    have := h.le
    rcases hk with hk | hk
    · exact ⟨hk.1, by omega⟩
    · exact ⟨by omega, hk.2⟩
  ord := defM_ord h.wf h.ord c
  below := (h.below.trans (hb.mono h.below.size)).trans (hc.below (Nat.le_trans h.below.size hb.size) fun k hk hf => by have := h.le; omega)
  le := ⟨h.le.1, Nat.le_trans h.le.2 (Nat.le_trans hb.size hc.size)⟩

theorem ov_all {m : List EntM} {c a : Int × Int} (h : (ovR m c a).2 = 0) : (allR m a).2 = 0 := by
  unfold ovR at h
  unfold allR
  cases hx : methAt m a with
  | none => rw [hx] at h; cases h
  | some x => rfl
/-- Two methods' places behind a class. -/
structure GrAt (w w1 : World) (p q : Int × Int) : Prop where
  c0 : w1.cell? ⟨w.heap.size + 1, 0, none⟩ = some (.int .i64 p.1)
  c1 : w1.cell? ⟨w.heap.size + 1, 1, none⟩ = some (.int .i64 p.2)
  a0 : w1.cell? ⟨w.heap.size + 1 + 1, 0, none⟩ = some (.int .i64 q.1)
  a1 : w1.cell? ⟨w.heap.size + 1 + 1, 1, none⟩ = some (.int .i64 q.2)
  bel : Below w.heap.size w w1
  lt : w.heap.size + 1 + 1 < w1.heap.size
theorem GrAt.start (w : World) (o : Obj) (p q : Int × Int) : GrAt w (((w.alloc o).alloc (.cells #[.int .i64 p.1, .int .i64 p.2] 28)).alloc (.cells #[.int .i64 q.1, .int .i64 q.2] 28)) p q :=
  ⟨alloc_old (alloc_atO (by simp) _ _ rfl), alloc_old (alloc_atO (by simp) _ _ rfl), alloc_atO (by simp) _ _ rfl, alloc_atO (by simp) _ _ rfl, (((Below.refl _ _).alloc (Nat.le_refl _) _).alloc (by simp) _).alloc (by simp; omega) _, by simp⟩
theorem GrAt.next {w w1 w2 : World} {p q : Int × Int} (h : GrAt w w1 p q) (hb : Below w1.heap.size w1 w2) : GrAt w w2 p q :=
  ⟨below_cell' hb h.c0, below_cell' hb h.c1, below_cell' hb h.a0, below_cell' hb h.a1, h.bel.trans (hb.mono h.bel.size), Nat.lt_of_lt_of_le h.lt hb.size⟩
theorem GrAt.chg {w w1 w2 : World} {p q : Int × Int} {F : Nat → Prop} (h : GrAt w w1 p q) (hc : Chg F w1 w2) (hF : ∀ k, k ≤ w.heap.size + 1 + 1 → ¬ F k) : GrAt w w2 p q :=
  ⟨hc.cell_eq h.c0 (hF _ (by simp only; omega)), hc.cell_eq h.c1 (hF _ (by simp only; omega)), hc.cell_eq h.a0 (hF _ (by simp only; omega)), hc.cell_eq h.a1 (hF _ (by simp only; omega)), h.bel.trans (hc.below h.bel.size fun k hk => hF k (by omega)), Nat.lt_of_lt_of_le h.lt hc.size⟩

theorem OverrideGrows (a : Option Addr) (cp : Nat) (xs : List ClsM) (cs : List Value) (c : ClsM) (p q : Int × Int) (w : World) (hx : ClsSl (fun b => b < w.heap.size) w (.slice a xs.length cp) xs) (hcl : ClsIs (fun b => b < w.heap.size) w cs c) (he : Lf.Env w) :
    Calls Tryz.prog 3 #[.slice a xs.length cp, .agg cs.toArray, .agg #[.int .i64 p.1, .int .i64 p.2], .agg #[.int .i64 q.1, .int .i64 q.2]] w fun e w' => e = .returned (.bool true) ∧ Below w.heap.size w w' := by
  have HCL0 := Lib.hid hcl
  obtain ⟨iv, mv, rfl, p1, _, hi, _, _, hm⟩ := hcl
  obtain ⟨ia, ic, rfl, _⟩ := id hi
  obtain ⟨ma, mc, rfl, _⟩ := id hm
  rw [show [Value.string c.name, .string c.super, .slice ia c.ifaces.length ic, .int .i64 c.flags, .int .i64 c.loader, .slice ma c.meths.length mc].toArray = #[Value.string c.name, .string c.super, .slice ia c.ifaces.length ic, .int .i64 c.flags, .int .i64 c.loader, .slice ma c.meths.length mc] from rfl]
  have HT0 := Lib.hid (GrAt.start w (.cells #[.string c.name, .string c.super, .slice ia c.ifaces.length ic, .int .i64 c.flags, .int .i64 c.loader, .slice ma c.meths.length mc] 26) p q)
  obtain ⟨wa, hwa⟩ : ∃ wa, (((w.alloc (.cells #[.string c.name, .string c.super, .slice ia c.ifaces.length ic, .int .i64 c.flags, .int .i64 c.loader, .slice ma c.meths.length mc] 26)).alloc (.cells #[.int .i64 p.1, .int .i64 p.2] 28)).alloc (.cells #[.int .i64 q.1, .int .i64 q.2] 28)) = wa := ⟨_, rfl⟩
  have hbox : wa.cell? ⟨w.heap.size, 0, none⟩ = some (.string c.name) ∧ wa.cell? ⟨w.heap.size, 1, none⟩ = some (.string c.super) ∧ wa.cell? ⟨w.heap.size, 2, none⟩ = some (.slice ia c.ifaces.length ic) ∧ wa.cell? ⟨w.heap.size, 3, none⟩ = some (.int .i64 c.flags) ∧ wa.cell? ⟨w.heap.size, 4, none⟩ = some (.int .i64 c.loader) ∧ wa.cell? ⟨w.heap.size, 5, none⟩ = some (.slice ma c.meths.length mc) := by
    rw [← hwa]
    exact ⟨alloc_old (alloc_old (World.cell?_alloc_new ..)), alloc_old (alloc_old (World.cell?_alloc_new ..)), alloc_old (alloc_old (World.cell?_alloc_new ..)), alloc_old (alloc_old (World.cell?_alloc_new ..)), alloc_old (alloc_old (World.cell?_alloc_new ..)), alloc_old (alloc_old (World.cell?_alloc_new ..))⟩
  rw [hwa] at HT0
  have HBOX := Lib.hid hbox
  have HX := Lib.hid (hx.nextO HT0.out.bel)
  have HEW := Lib.hid he
  have HE := Lib.hid (he.below HT0.out.bel)
  have HCL := Lib.hid (HCL0.out.next HT0.out.bel)
  have HAW := Lib.hid (awake09 wa)
  clear hx he hbox hi hm p1 HCL0
  go_enter Tryz.func3, Tryz.ntmps3
  go_wp2_with fail
  try rw [hwa]
  clear hwa
  refine HAW.out.mono ?_
  rintro e w1 ⟨rfl, hb1⟩
  have HBU := Lib.hid (built09 a cp xs w1 (HX.out.nextO hb1) (HE.out.below hb1))
  have HT1 := Lib.hid (HT0.out.next hb1)
  have HE1 := Lib.hid (HE.out.below hb1)
  have HCL1 := Lib.hid (HCL.out.next hb1)
  have g0 := below_cell' hb1 HBOX.out.1
  have g1 := below_cell' hb1 HBOX.out.2.1
  have g2 := below_cell' hb1 HBOX.out.2.2.1
  have g3 := below_cell' hb1 HBOX.out.2.2.2.1
  have g4 := below_cell' hb1 HBOX.out.2.2.2.2.1
  have g5 := below_cell' hb1 HBOX.out.2.2.2.2.2
  clear hb1 HT0 HX HE HAW HCL HBOX
  go_wp2_with fail
  refine HBU.out.mono ?_
  rintro e w2 ⟨rfl, h2⟩
  have H2 := Lib.hid h2
  have HT2 := Lib.hid (HT1.out.next h2.below)
  have HE2 := Lib.hid (HE1.out.below h2.below)
  have HCL2 := Lib.hid (HCL1.out.next h2.below)
  have hb12 := h2.below
  have q0 := below_cell' hb12 g0
  have q1 := below_cell' hb12 g1
  have q2 := below_cell' hb12 g2
  have q3 := below_cell' hb12 g3
  have q4 := below_cell' hb12 g4
  have q5 := below_cell' hb12 g5
  have HSZ : Hid (w.heap.size + 1 + 1 < w1.heap.size) := Lib.hid HT1.out.lt
  clear h2 hb12 HBU HE1 HCL1 HT1 g0 g1 g2 g3 g4 g5
  generalize w1.heap.size = B at H2 HSZ
  generalize defs xs = m at H2
  have HWF := Lib.hid H2.out.wf
  have HO := Lib.hid H2.out.ord
  have HLT := Lib.hid (fun hwd he => ov_later (c := p) (a := q) HWF.out c hwd he)
  have HOX := Lib.hid (OOverrides H2.out p q)
  have HAX := Lib.hid (fun wr (hr : Below w2.heap.size w2 wr) => OAll (H2.out.next hr) q)
  have HER := Lib.hid (ovR_err m p q)
  have HEF := Lib.hid (ov_all (m := m) (c := p) (a := q))
  obtain ⟨P, er, hP⟩ : ∃ P er, ovR m p q = (P, er) := ⟨_, _, rfl⟩
  rw [hP] at HOX HER HLT HEF
  clear hP
  obtain ⟨al, ef, hA⟩ : ∃ al ef, allR m q = (al, ef) := ⟨_, _, rfl⟩
  rw [hA] at HLT HEF
  have HAXE := Lib.hid hA
  clear hA
  simp only at HOX HER HLT HEF
  have t0 := HT2.out.c0
  have t1 := HT2.out.c1
  have u0 := HT2.out.a0
  have u1 := HT2.out.a1
  go_wp2_with fail
  refine HOX.out.mono ?_
  rintro e w3 ⟨rfl, hb⟩
  have HB3 := Lib.hid hb
  have HAY := Lib.hid (HAX.out w3 hb)
  rw [HAXE.out] at HAY
  simp only at HAY
  have HT3 := Lib.hid (HT2.out.next hb)
  have r0 := Lib.hid (below_cell' hb q0)
  have r1 := Lib.hid (below_cell' hb q1)
  have r2 := Lib.hid (below_cell' hb q2)
  have r3 := Lib.hid (below_cell' hb q3)
  have r4 := Lib.hid (below_cell' hb q4)
  have r5 := Lib.hid (below_cell' hb q5)
  clear hb HOX HAX HT2 t0 t1 u0 u1 q0 q1 q2 q3 q4 q5
  have u0 := HT3.out.a0
  have u1 := HT3.out.a1
  go_wp2_with fail
  refine HAY.out.mono ?_
  rintro e w4 ⟨aa, ac, rfl, hs, hb⟩
  have HB4 := Lib.hid (HB3.out.trans (hb.mono HB3.out.size))
  have HS4 := Lib.hid hs
  have HT4 := Lib.hid (HT3.out.next hb)
  have q0 := below_cell' hb r0.out
  have q1 := below_cell' hb r1.out
  have q2 := below_cell' hb r2.out
  have q3 := below_cell' hb r3.out
  have q4 := below_cell' hb r4.out
  have q5 := below_cell' hb r5.out
  have HZ3 : Hid (w2.heap.size ≤ w3.heap.size) := Lib.hid HB3.out.size
  clear hb hs HAY HT3 u0 u1 r0 r1 r2 r3 r4 r5 HB3
  by_cases her : er = 0
  case neg =>
    have her3 : er = 3 := HER.out.resolve_left her
    subst her3
    have HBF := Lib.hid HT4.out.bel
    clear HLT HER HT4 HS4 q0 q1 q2 q3 q4 q5
    go_wp2
    go_ret
    exact ⟨rfl, HBF.out⟩
  subst her
  have hb4 := HB4.out
  have HDF := Lib.hid (Define (H2.out.hw.alike hb4.size (Alike.of_below hb4 H2.out.live)) HO.out.short (HCL2.out.next hb4) (fun k hk => hk) (fun k hk => Nat.lt_of_lt_of_le hk.2 hb4.size) (HE2.out.below hb4))
  rw [show [Value.string c.name, .string c.super, .slice ia c.ifaces.length ic, .int .i64 c.flags, .int .i64 c.loader, .slice ma c.meths.length mc].toArray = #[Value.string c.name, .string c.super, .slice ia c.ifaces.length ic, .int .i64 c.flags, .int .i64 c.loader, .slice ma c.meths.length mc] from rfl] at HDF
  have HLN := Lib.hid (Len (H2.out.next hb4).hw)
  have HT5 : Hid (∀ w5, Chg (fun k => B ≤ k ∧ k < w2.heap.size) w4 w5 → GrAt w w5 p q ∧ IdSl (fun b => w3.heap.size ≤ b ∧ b < w4.heap.size) w5 (.slice aa al.length ac) al) := Lib.hid (fun w5 hc => ⟨HT4.out.chg hc (fun k hk hf => by have := HSZ.out; omega), HS4.out.alike (Alike.of_chg hc fun k hk => ⟨hk.2, fun hf => by have := HZ3.out; omega⟩)⟩)
  have hef := HEF.out rfl
  subst hef
  clear hb4 HER HEF
  go_wp2_with fail
  refine HLN.out.mono ?_
  rintro e w4' ⟨rfl, rfl⟩
  clear HLN
  go_wp2_with fail
  refine HDF.out.mono ?_
  rintro e w5 ⟨rfl, hw5, hc5⟩
  have H5 := Lib.hid (H2.out.laterO HB4.out c hw5 hc5)
  obtain ⟨ht5, hs5⟩ := HT5.out w5 hc5
  have hz45 := hc5.size
  have HT := Lib.hid ht5
  have HS5 := Lib.hid hs5
  obtain ⟨eq1, t, eq2, _, htl, htn⟩ := HLT.out H5.out.wf (by trivial)
  have HO5 := Lib.hid (OOverrides H5.out p q)
  rw [eq1] at HO5
  simp only at HO5
  have HA5 := Lib.hid (fun wr (hr : Below w5.heap.size w5 wr) => OAll (H5.out.next hr) q)
  rw [eq2] at HA5
  obtain ⟨mo, hmo⟩ : ∃ mo, al ++ t = mo := ⟨_, rfl⟩
  have HMO := Lib.hid hmo
  have hmol : mo.length = al.length + t.length := by rw [← hmo, List.length_append]
  have HTN := Lib.hid htn
  have t0 := HT.out.c0
  have t1 := HT.out.c1
  have u0 := HT.out.a0
  have u1 := HT.out.a1
  simp only [hmo] at HA5
  have hal : (al.length : Int) ≤ (mo.length : Int) := by omega
  have hle : (mo.length : Int) ≤ (al.length : Int) + 1 := by omega
  have HMOL := Lib.hid (And.intro hmol htl)
  clear hmol htl hw5 hc5 HDF HT5 ht5 hs5 eq1 eq2 hmo HT4 HS4 HLT htn q0 q1 q2 q3 q4 q5
  go_wp2_with fail
  refine HO5.out.mono ?_
  rintro e w6 ⟨rfl, hb⟩
  have HA6 := Lib.hid (HA5.out w6 hb)
  have HT6 := Lib.hid (HT.out.next hb)
  have HS6 : Hid (IdSl (fun b => w3.heap.size ≤ b ∧ b < w4.heap.size) w6 (.slice aa al.length ac) al) := Lib.hid (HS5.out.alike (Alike.of_below hb fun k hk => by omega))
  have hz56 := hb.size
  clear hb HO5 HA5 HT HS5 t0 t1 u0 u1
  have u0 := HT6.out.a0
  have u1 := HT6.out.a1
  go_wp2_with fail
  refine HA6.out.mono ?_
  rintro e w7 ⟨ba, bc, rfl, hs, hb⟩
  have HT7 := Lib.hid (HT6.out.next hb)
  have HS7 : Hid (IdSl (fun b => w3.heap.size ≤ b ∧ b < w4.heap.size) w7 (.slice aa al.length ac) al) := Lib.hid (HS6.out.alike (Alike.of_below hb fun k hk => by omega))
  have HM7 := Lib.hid hs
  have hz67 := hb.size
  have hcap : (mo.length : Int) ≤ (bc : Int) ∧ mo.length * 16 ≤ 140737488355328 := by
    obtain ⟨a', c', hf, h2, h3, _⟩ := hs
    injection hf with f1 f2 f3
    subst f3
    exact ⟨by omega, h3⟩
  have hcap1 := hcap.1
  have hcap2 := hcap.2
  have hcap3 : (al.length : Int) ≤ (bc : Int) := by omega
  have HSI := Lib.hid (RIDs (HM7.out.take HMO.out.symm) HS7.out (fun k hk => hk.2) (fun k hk => by omega))
  clear hcap hs hb HA6 HT6 HS6 u0 u1
  go_wp2_with fail
  refine HSI.out.mono ?_
  rintro e w8 ⟨rfl, hb⟩
  have HB8 := Lib.hid (HT7.out.bel.trans (hb.mono HT7.out.bel.size))
  have HM8 : Hid (IdSl (fun b => w6.heap.size ≤ b ∧ b < w7.heap.size) w8 (.slice ba mo.length bc) mo) := Lib.hid (HM7.out.alike (Alike.of_below hb fun k hk => hk.2))
  have hz78 := hb.size
  have HEL : Hid (∀ j (h : al.length + j < mo.length), mo[al.length + j].1 = (m.length : Int)) := Lib.hid (fun j h => HTN.out _ (by
    have e := HMO.out
    subst e
    rw [List.getElem_append_right (by omega)]
    exact List.getElem_mem _))
  clear hb HSI HM7 HS7 HT7 HTN
  go_wp2_with fail
  go_loopg [19] t.length (fun gk u wr => ∃ j : Nat, Hid (j + gk = t.length) ∧ u = .int .i64 ((al.length + j : Nat) : Int) ∧ Hid (Below w8.heap.size w8 wr))
  case atStart => exact ⟨0, Lib.hid (Nat.zero_add _), rfl, Lib.hid (Below.refl _ _)⟩
  case round =>
    obtain ⟨j, hj, rfl, HBR⟩ := hrel
    by_cases hlt : j < t.length
    · have hlt' : ((al.length + j : Nat) : Int) < (mo.length : Int) := by have := HMOL.out; omega
      have hltn : al.length + j < mo.length := by have := HMOL.out; omega
      obtain ⟨bb, oo, rfl, g0, g1⟩ := IdSl.elem (HM8.out.alike (Alike.of_below HBR.out fun k hk => by omega)) hltn
      rw [HEL.out j hltn] at g0
      obtain ⟨kk, hkk⟩ : ∃ kk, al.length + j = kk := ⟨_, rfl⟩
      rw [hkk] at g0 hlt' hltn ⊢
      have HKK := Lib.hid hkk
      have HLJ := Lib.hid hlt
      clear g1 hkk hlt
      have hkb : kk ≤ 8796093022208 := by omega
      go_wp2
      go_roundg (t.length - (j + 1))
      case measure => have := hj.out; have := HLJ.out; omega
      case rel => exact ⟨j + 1, Lib.hid (by have := hj.out; have := HLJ.out; omega), by rw [show al.length + (j + 1) = kk + 1 by have := HKK.out; omega]; go_num, HBR⟩
    · have HBF := Lib.hid (HB8.out.trans (HBR.out.mono HB8.out.size))
      have hkk : al.length + j = mo.length := by have := hj.out; have := HMOL.out; omega
      rw [hkk]
      have hab : al.length ≤ 8796093022208 := by omega
      go_wp2
      go_ret
      exact ⟨rfl, HBF.out⟩
end Go.Proofs.YtmenknflabohhaaGreatDoor.Hi
