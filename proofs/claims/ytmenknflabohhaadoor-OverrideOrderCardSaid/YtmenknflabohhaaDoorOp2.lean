/- Overriding: Plain, of methods that are there. -/
import Derived.Test.YtmenknflabohhaaDoorOh
set_option maxRecDepth 100000
set_option maxHeartbeats 4000000
set_option linter.unusedVariables false
set_option linter.unusedSimpArgs false
namespace Go.Proofs.YtmenknflabohhaaDoor.Hi
open Go.RowKit Go.Sort Bs
attribute [local go_sem ↓] Go.wp_at_zero Go.wp_at_succ

theorem OPlain {B bw : Nat} {w0 w : World} {m : List EntM} (h : Built B bw w0 w m) {i j k l : Nat} (hi : i < m.length) (hj : j < m[i].c.meths.length) (hk : k < m.length) (hl : l < m[k].c.meths.length) :
    Calls Tryd.prog 9 #[.pointer (some ⟨bw, 0, none⟩), .agg #[.int .i64 k, .int .i64 l], .agg #[.int .i64 i, .int .i64 j]] w fun r w' => r = .returned (.tuple #[.bool (plainM m ((k : Int), (l : Int)) ((i : Int), (j : Int)) m[i].c.meths[j]), .int .i64 0]) ∧ Below w.heap.size w w' := by
  have HS := Lib.hid (TwoAt.start w ((k : Int), (l : Int)) ((i : Int), (j : Int)))
  have HA := Lib.hid (OAsk (h.next HS.out.bel) hi hj)
  have HM := Lib.hid (fun wr (hr : Below w.heap.size w wr) => Method2 (h.next hr) hk hl)
  have HOW := Lib.hid (fun wr (hr : Below w.heap.size w wr) q (hq : AskAt wr q bw ((i : Int), (j : Int)) m[i].c.meths[j]) => OOwn (h.next hr) hq hk)
  have HSE := Lib.hid (fun wr (hr : Below w.heap.size w wr) q (hq : AskAt wr q bw ((i : Int), (j : Int)) m[i].c.meths[j]) => OSeen (h.next hr) hq hk hi hj)
  have HFX := Lib.hid (fun ad q c wr => OFree m[i].c.meths[j].name m[i].c.meths[j].desc m[i].c.meths[j].flags m[i].c.meths[j].locals m[i].c.meths[j].stack ad q c wr)
  have HEX := Lib.hid (fun wr (hr : Below w.heap.size w wr) => (h.next hr).extends (k : Int) (i : Int))
  generalize m[i].c.meths[j] = x at *
  generalize m[k].c.meths[l] = y at *
  have HFE : Hid ((!statF x.flags && !(x.name.toList == initN.toList)) = freeX x) := Lib.hid rfl
  rw [HFE.out] at HFX
  have HR : Hid (plainM m ((k : Int), (l : Int)) ((i : Int), (j : Int)) x = ((ownM m x.name x.desc k == some ((k : Int), (l : Int))) && freeX x && ((k : Int) != (i : Int)) && extM m k i && seenM m k ((i : Int), (j : Int)))) := Lib.hid rfl
  obtain ⟨R, hR⟩ : ∃ R, plainM m ((k : Int), (l : Int)) ((i : Int), (j : Int)) x = R := ⟨_, rfl⟩
  rw [hR] at HR ⊢
  obtain ⟨o, ho⟩ : ∃ o, ownM m x.name x.desc k = o := ⟨_, rfl⟩
  have HO := Lib.hid ho
  rw [ho] at HOW HR
  obtain ⟨f, hf⟩ : ∃ f, (findH m k x.name x.desc).1 = f := ⟨_, rfl⟩
  rw [hf] at HOW
  have HF := Lib.hid hf
  generalize freeX x = fr at *
  generalize extM m k i = ex at *
  generalize seenM m k ((i : Int), (j : Int)) = sn at *
  clear h hR ho hf HFE hj hl
  go_enter Tryd.func9, Tryd.ntmps9
  go_wp2_with fail
  refine HA.out.mono ?_
  rintro _ w1 ⟨q, rfl, hq, hb⟩
  have HB := Lib.hid (HS.out.next hb)
  have HMX := Lib.hid (HM.out w1 HB.out.bel)
  have HQ := Lib.hid hq
  have c0 := HB.out.c0
  have c1 := HB.out.c1
  clear hb HA HS HM hq
  go_wp2_with fail
  refine HMX.out.mono ?_
  rintro _ w2 ⟨ad, ql, qc, rfl, hb⟩
  obtain ⟨wx, hwx⟩ : ∃ wx, (w2.alloc (.cells #[.string y.name, .string y.desc, .int .i64 y.flags, .int .i64 y.locals, .int .i64 y.stack, .slice ad ql qc] 30)) = wx := ⟨_, rfl⟩
  have hbx : Below w2.heap.size w2 wx := by rw [← hwx]; exact (Below.refl _ _).alloc (Nat.le_refl _) _
  have hb2 := hb.trans (hbx.mono hb.size)
  have HB2 := Lib.hid (HB.out.next hb2)
  have HQ2 := Lib.hid (HQ.out.next hb2)
  have HOX := Lib.hid (HOW.out wx HB2.out.bel q HQ2.out)
  have d0 := HB2.out.c0
  have d1 := HB2.out.c1
  clear hb hbx hb2 HMX HB c0 c1 HQ HOW
  go_wp2_with fail
  try rw [hwx]
  clear hwx
  refine HOX.out.mono ?_
  rintro _ w3 ⟨rfl, hb⟩
  obtain ⟨wy, hwy⟩ : ∃ wy, (w3.alloc (.cells #[.int .i64 k, .int .i64 f] 24)) = wy := ⟨_, rfl⟩
  have hbx : Below w3.heap.size w3 wy := by rw [← hwy]; exact (Below.refl _ _).alloc (Nat.le_refl _) _
  have i0 : wy.cell? ⟨w3.heap.size, 0, none⟩ = some (.int .i64 k) := by rw [← hwy]; exact World.cell?_alloc_new ..
  have i1 : wy.cell? ⟨w3.heap.size, 1, none⟩ = some (.int .i64 f) := by rw [← hwy]; exact World.cell?_alloc_new ..
  have hb2 := hb.trans (hbx.mono hb.size)
  have HB3 := Lib.hid (HB2.out.next hb2)
  have HQ3 := Lib.hid (HQ2.out.next hb2)
  have c0 := HB3.out.c0
  have c1 := HB3.out.c1
  have a0 := HB3.out.a0
  have a1 := HB3.out.a1
  have z3 := HQ3.out.k3
  have z4 := HQ3.out.k4
  have z5 := HQ3.out.k5
  have z6 := HQ3.out.k6
  have z7 := HQ3.out.k7
  obtain ⟨xa, xl, xc, z8⟩ := HQ3.out.k8
  have HFY := Lib.hid (HFX.out xa xl xc wy)
  clear hb hbx hb2 HOX HB2 d0 d1 HQ2 HFX
  simp only at c0 c1 a0 a1
  cases o with
  | none =>
    have G : Hid (R = false) := Lib.hid (by rw [HR.out]; rfl)
    clear HR HO HF HSE HEX HFY
    go_wp2
    try rw [hwy]
    go_ret2
    exact ⟨by rw [G.out]; rfl, HB3.out.bel⟩
  | some id =>
    obtain rfl := own_id HO.out
    rw [HF.out] at HR HO
    by_cases hfl : f = (l : Int)
    case neg =>
      have hfl' : (f == (l : Int)) = false := by simpa using hfl
      have G : Hid (R = false) := Lib.hid (by rw [HR.out]; simp [hfl])
      clear HR HO HF HSE HEX HFY hfl
      go_wp2
      try rw [hwy]
      go_ret2
      exact ⟨by rw [G.out]; rfl, HB3.out.bel⟩
    subst hfl
    have HR2 : Hid (R = (fr && ((k : Int) != (i : Int)) && ex && sn)) := Lib.hid (by rw [HR.out]; simp)
    clear HR HO HF
    go_wp2_with fail
    try rw [hwy]
    clear hwy
    refine HFY.out.mono ?_
    rintro _ w4 ⟨rfl, hb⟩
    have HB4 := Lib.hid (HB3.out.next hb)
    have HQ4 := Lib.hid (HQ3.out.next hb)
    have e0 := HB4.out.c0
    have e1 := HB4.out.c1
    have b0 := HB4.out.a0
    have b1 := HB4.out.a1
    simp only at e0 e1 b0 b1
    have HEY := Lib.hid (HEX.out w4 HB4.out.bel)
    clear hb HFY HB3 HQ3 c0 c1 a0 a1 z3 z4 z5 z6 z7 z8 HEX i0 i1
    cases fr
    · have G : Hid (R = false) := Lib.hid (by rw [HR2.out]; rfl)
      clear HR2 HSE HEY
      go_wp2
      go_ret2
      exact ⟨by rw [G.out]; rfl, HB4.out.bel⟩
    by_cases hki : (k : Int) = (i : Int)
    · have hki' : ((k : Int) != (i : Int)) = false := by simp [hki]
      have G : Hid (R = false) := Lib.hid (by rw [HR2.out, hki']; rfl)
      clear HR2 HSE HEY hki
      go_wp2
      go_ret2
      exact ⟨by rw [G.out]; rfl, HB4.out.bel⟩
    have hki' : ((k : Int) != (i : Int)) = true := by simpa using hki
    have HR3 : Hid (R = (ex && sn)) := Lib.hid (by rw [HR2.out, hki']; rfl)
    clear HR2 hki
    go_wp2_with fail
    refine HEY.out.mono ?_
    rintro _ w5 ⟨rfl, hb⟩
    have HB5 := Lib.hid (HB4.out.next hb)
    have HQ5 := Lib.hid (HQ4.out.next hb)
    have c0 := HB5.out.c0
    have c1 := HB5.out.c1
    have a0 := HB5.out.a0
    have a1 := HB5.out.a1
    simp only at c0 c1 a0 a1
    have HSY := Lib.hid (HSE.out w5 HB5.out.bel q HQ5.out)
    clear hb HEY HB4 HQ4 e0 e1 b0 b1 HSE
    cases ex
    · have G : Hid (R = false) := Lib.hid (by rw [HR3.out]; rfl)
      clear HR3 HSY
      go_wp2
      go_ret2
      exact ⟨by rw [G.out]; rfl, HB5.out.bel⟩
    have G : Hid (R = sn) := Lib.hid (by rw [HR3.out]; rfl)
    clear HR3
    go_wp2_with fail
    refine HSY.out.mono ?_
    rintro _ w6 ⟨rfl, hb⟩
    have HB6 := Lib.hid (HB5.out.next hb)
    clear hb HSY
    go_wp2
    go_ret2
    exact ⟨by rw [G.out]; rfl, HB6.out.bel⟩
end Go.Proofs.YtmenknflabohhaaDoor.Hi
