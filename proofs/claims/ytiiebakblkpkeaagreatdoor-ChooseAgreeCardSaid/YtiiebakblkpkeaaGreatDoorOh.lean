/- Overriding: Overrides and Plain, whatever is asked. -/
import Derived.Test.YtiiebakblkpkeaaGreatDoorOg
set_option maxRecDepth 100000
set_option maxHeartbeats 2000000
set_option linter.unusedVariables false
set_option linter.unusedSimpArgs false
namespace Go.Proofs.YtiiebakblkpkeaaGreatDoor.Hi
open Go.RowKit Bs

theorem OMethod_some {B bw : Nat} {w0 w : World} {m : List EntM} (h : Built B bw w0 w m) {p : Int × Int} {x : MethM} (hx : methAt m p = some x) :
    Calls Tryz.prog 15 #[.pointer (some ⟨bw, 0, none⟩), .agg #[.int .i64 p.1, .int .i64 p.2]] w fun r w' => ∃ (ad : Option Addr) (q c : Nat), r = .returned (.tuple #[.agg #[.string x.name, .string x.desc, .int .i64 x.flags, .int .i64 x.locals, .int .i64 x.stack, .slice ad q c], .int .i64 0]) ∧ Below w.heap.size w w' := by
  obtain ⟨i, j, hi, hj, rfl, rfl⟩ := methAt_some hx
  exact Method2 h hi hj
theorem OMethod_none {B bw : Nat} {w0 w : World} {m : List EntM} (h : Built B bw w0 w m) {p : Int × Int} (hx : methAt m p = none) :
    Calls Tryz.prog 15 #[.pointer (some ⟨bw, 0, none⟩), .agg #[.int .i64 p.1, .int .i64 p.2]] w fun r w' => r = .returned (.tuple #[zeroMeth, .int .i64 3]) ∧ Below w.heap.size w w' := by
  cases he : entAt m p.1 with
  | none => exact Method_far h.hw h.live he
  | some e =>
    refine Method_out h.hw h.live he ?_
    unfold methAt at hx
    rw [he] at hx
    simp only at hx
    split at hx
    · next h0 =>
      right
      have := List.getElem?_eq_none_iff.1 hx
      omega
    · next h0 => left; omega

theorem alloc_atO {w : World} {q : Nat} (hq : w.heap.size = q) (cs : Array Value) (t : TypeId) {j : Nat} {v : Value} (hv : cs[j]? = some v) : (w.alloc (.cells cs t)).cell? ⟨q, j, none⟩ = some v := by
  subst hq
  exact (World.cell?_alloc_new ..).trans hv
/-- The two methods' places. -/
structure TwoAt (w w1 : World) (c a : Int × Int) : Prop where
  c0 : w1.cell? ⟨w.heap.size, 0, none⟩ = some (.int .i64 c.1)
  c1 : w1.cell? ⟨w.heap.size, 1, none⟩ = some (.int .i64 c.2)
  a0 : w1.cell? ⟨w.heap.size + 1, 0, none⟩ = some (.int .i64 a.1)
  a1 : w1.cell? ⟨w.heap.size + 1, 1, none⟩ = some (.int .i64 a.2)
  bel : Below w.heap.size w w1
theorem TwoAt.start (w : World) (c a : Int × Int) : TwoAt w ((w.alloc (.cells #[.int .i64 c.1, .int .i64 c.2] 24)).alloc (.cells #[.int .i64 a.1, .int .i64 a.2] 24)) c a :=
  ⟨alloc_old (World.cell?_alloc_new ..), alloc_old (World.cell?_alloc_new ..), alloc_atO (by simp) _ _ rfl, alloc_atO (by simp) _ _ rfl, ((Below.refl _ _).alloc (Nat.le_refl _) _).alloc (by simp) _⟩
theorem TwoAt.next {w w1 w2 : World} {c a : Int × Int} (h : TwoAt w w1 c a) (hb : Below w1.heap.size w1 w2) : TwoAt w w2 c a :=
  ⟨below_cell' hb h.c0, below_cell' hb h.c1, below_cell' hb h.a0, below_cell' hb h.a1, h.bel.trans (hb.mono h.bel.size)⟩

theorem OOverrides {B bw : Nat} {w0 w : World} {m : List EntM} (h : Built B bw w0 w m) (c a : Int × Int) :
    Calls Tryz.prog 19 #[.pointer (some ⟨bw, 0, none⟩), .agg #[.int .i64 c.1, .int .i64 c.2], .agg #[.int .i64 a.1, .int .i64 a.2]] w fun r w' => r = .returned (.tuple #[.bool (ovR m c a).1, .int .i64 (ovR m c a).2]) ∧ Below w.heap.size w w' := by
  have HS := Lib.hid (TwoAt.start w c a)
  cases hx : methAt m a with
  | none =>
    have HR : Hid (ovR m c a = (false, 3)) := Lib.hid (by unfold ovR; rw [hx])
    have HA := Lib.hid (OAsk_bad (bw := bw) (a := a.1) (b := a.2) (w := ((w.alloc (.cells #[.int .i64 c.1, .int .i64 c.2] 24)).alloc (.cells #[.int .i64 a.1, .int .i64 a.2] 24))) fun wr hr => OMethod_none ((h.next HS.out.bel).next hr) hx)
    rw [HR.out]
    clear h hx HR
    go_enter Tryz.func19, Tryz.ntmps19
    go_wp2_with fail
    refine HA.out.mono ?_
    rintro _ w1 ⟨rfl, hb⟩
    have HB := Lib.hid (HS.out.next hb)
    clear hb HA HS
    go_wp2
    go_ret2
    exact ⟨rfl, HB.out.bel⟩
  | some x =>
    obtain ⟨i, j, hi, hj, rfl, rfl⟩ := methAt_some hx
    have HA := Lib.hid (OAsk (h.next HS.out.bel) hi hj)
    cases hc : methAt m c with
    | none =>
      have HR : Hid (ovR m c ((i : Int), (j : Int)) = (false, 3)) := Lib.hid (by unfold ovR; rw [hx, hc])
      have HM := Lib.hid (fun wr (hr : Below w.heap.size w wr) => OMethod_none (h.next hr) hc)
      rw [HR.out]
      unfold zeroMeth at HM
      clear h hx HR hc
      go_enter Tryz.func19, Tryz.ntmps19
      go_wp2_with fail
      refine HA.out.mono ?_
      rintro _ w1 ⟨q, rfl, _, hb⟩
      have HB := Lib.hid (HS.out.next hb)
      have HMX := Lib.hid (HM.out w1 HB.out.bel)
      have c0 := HB.out.c0
      have c1 := HB.out.c1
      clear hb HA HS HM
      go_wp2_with fail
      refine HMX.out.mono ?_
      rintro _ w2 ⟨rfl, hb⟩
      have HB2 := Lib.hid (HB.out.next (hb.alloc hb.size (.cells #[Value.string ⟨#[]⟩, .string ⟨#[]⟩, .int .i64 0, .int .i64 0, .int .i64 0, .slice none 0 0] 39)))
      clear hb HMX HB c0 c1
      go_wp2
      go_ret2
      exact ⟨rfl, HB2.out.bel⟩
    | some y =>
      have HR : Hid (ovR m c ((i : Int), (j : Int)) = (ovM m c ((i : Int), (j : Int)) m[i].c.meths[j], 0)) := Lib.hid (by unfold ovR; rw [hx, hc])
      have HM := Lib.hid (fun wr (hr : Below w.heap.size w wr) => OMethod_some (h.next hr) hc)
      obtain ⟨k, l, hk, hl, rfl, rfl⟩ := methAt_some hc
      have HD := Lib.hid (fun wr (hr : Below w.heap.size w wr) q (hq : AskAt wr q bw ((i : Int), (j : Int)) m[i].c.meths[j]) => ODown (h.next hr) hi hj hk hq)
      have HV : Hid (ovM m ((k : Int), (l : Int)) ((i : Int), (j : Int)) m[i].c.meths[j] = (downM m m[i].c.meths[j] ((i : Int), (j : Int)) k).contains ((k : Int), (l : Int))) := Lib.hid (by unfold ovM; rw [Int.toNat_natCast])
      rw [HR.out]
      simp only
      rw [HV.out]
      generalize m[k].c.meths[l] = y at *
      generalize m[i].c.meths[j] = x at *
      generalize downM m x ((i : Int), (j : Int)) k = L at *
      obtain ⟨bb, hbb⟩ : ∃ bb, L.contains ((k : Int), (l : Int)) = bb := ⟨_, rfl⟩
      rw [hbb]
      have HBB := Lib.hid hbb
      clear h hx HR hc HV hbb
      go_enter Tryz.func19, Tryz.ntmps19
      go_wp2_with fail
      refine HA.out.mono ?_
      rintro _ w1 ⟨q, rfl, hq, hb⟩
      have HB := Lib.hid (HS.out.next hb)
      have HMX := Lib.hid (HM.out w1 HB.out.bel)
      have HQ := Lib.hid hq
      have c0 := HB.out.c0
      have c1 := HB.out.c1
      clear hb HA HS HM hq
      go_wp2_with fail
      refine HMX.out.mono ?_
      rintro _ w2 ⟨ad, ql, qc, rfl, hb⟩
      obtain ⟨wx, hwx⟩ : ∃ wx, (w2.alloc (.cells #[.string y.name, .string y.desc, .int .i64 y.flags, .int .i64 y.locals, .int .i64 y.stack, .slice ad ql qc] 39)) = wx := ⟨_, rfl⟩
      have hbx : Below w2.heap.size w2 wx := by rw [← hwx]; exact (Below.refl _ _).alloc (Nat.le_refl _) _
      have hb2 := hb.trans (hbx.mono hb.size)
      have HB2 := Lib.hid (HB.out.next hb2)
      have HDX := Lib.hid (HD.out wx.drew HB2.out.bel.drew q ((HQ.out.next hb2).next (Below.refl _ _).drew))
      have d0 := HB2.out.c0
      have d1 := HB2.out.c1
      clear hb hbx hb2 HMX HB c0 c1 HQ HD
      go_wp2_with fail
      try rw [hwx]
      clear hwx
      go_region_with (first | (go_at_call 44; (with_reducible refine HDX.out.mono ?_); rintro _ w3 ⟨ad3, k3, rfl, hs, hb⟩; (have HB3 := Lib.hid (HB2.out.next ((Below.refl wx.heap.size wx).drew.trans hb))); (have HC := Lib.hid (ContV ((k : Int), (l : Int)) (hs.mono fun _ hk => hk.2))); (rw [HBB.out] at HC); (have e0 := below_cell' hb (show wx.drew.cell? _ = _ from d0)); (have e1 := below_cell' hb (show wx.drew.cell? _ = _ from d1))) | (go_at_call 43; (with_reducible refine HC.out.mono ?_); rintro _ w4 ⟨rfl, hb4⟩; (have HB4 := Lib.hid (HB3.out.next hb4))))
      all_goals
        go_wp2
        go_ret2
        exact ⟨rfl, HB4.out.bel⟩
end Go.Proofs.YtiiebakblkpkeaaGreatDoor.Hi
