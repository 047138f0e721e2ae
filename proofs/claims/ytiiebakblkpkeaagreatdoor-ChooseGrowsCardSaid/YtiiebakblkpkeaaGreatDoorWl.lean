/- Selection: where invokespecial begins; what stands beside: the walks. -/
import Derived.Test.YtiiebakblkpkeaaGreatDoorWk
import Derived.Test.YtiiebakblkpkeaaGreatDoorWC
set_option maxRecDepth 100000
set_option maxHeartbeats 8000000
set_option linter.unusedVariables false
set_option linter.unusedSimpArgs false
namespace Go.Proofs.YtiiebakblkpkeaaGreatDoor.Hi
open Go.RowKit Go.Shelf Go.Sort Bs
attribute [local go_sem ↓] idxI0 idxI1

/-- The class at which invokespecial begins its search. -/
def startC (m : List EntM) (d : Nat) (h : Int) (t : TyM) (i : Bool) : Int :=
  if ((t.dims == 0) && !i && !isIfaceM m h && (h != (d : Int)) && extM m d h && (bits .and .i64 (clsAt m d).flags 32 != 0)) = true then (superM m d).1 else h
theorem super_lt {m : List EntM} (hw : WFm m) {d : Nat} (hd : d < m.length) : ∃ k : Nat, k < m.length ∧ (superM m (d : Int)).1 = (k : Int) := by
  unfold superM
  rw [entAt_nat hd]
  simp only
  have := hw.above d hd
  split
  · exact ⟨0, by omega, rfl⟩
  · exact ⟨m[d].above.toNat, by omega, by simp only; omega⟩
theorem start_lt12 {m : List EntM} (hw : WFm m) {d : Nat} (hd : d < m.length) {h : Nat} (hh : h < m.length) (t : TyM) (i : Bool) : ∃ k : Nat, k < m.length ∧ startC m d (h : Int) t i = (k : Int) := by
  unfold startC
  split
  · exact super_lt hw hd
  · exact ⟨h, hh, rfl⟩

theorem Class3 {B bw : Nat} {w0 w : World} {m : List EntM} (h : Built B bw w0 w m) {i : Nat} (hi : i < m.length) :
    Calls Tryz.prog 47 #[.pointer (some ⟨bw, 0, none⟩), .int .i64 i] w fun r w' => ∃ (v0 v1 : ByteArray) (ia ma : Option Addr) (il ic ml mc : Nat) (l : Int), r = .returned (.tuple #[.agg #[.string v0, .string v1, .slice ia il ic, .int .i64 (clsAt m i).flags, .int .i64 l, .slice ma ml mc], .int .i64 0]) ∧ Below w.heap.size w w' :=
  (Class_in h.hw h.live (entAt_nat hi)).mono fun r w' ⟨cs', h1, h2, h3⟩ => by
    obtain ⟨iv, mv, rfl, _⟩ := id h2
    obtain ⟨ia, ic, rfl, _⟩ := (ClsIs.shape h2).1
    obtain ⟨ma, mc, rfl, _⟩ := (ClsIs.shape h2).2
    rw [clsAt_at hi]
    exact ⟨_, _, _, _, _, _, _, _, _, h1, h3⟩

theorem CStart {B bw : Nat} {w0 w : World} {m : List EntM} (h : Built B bw w0 w m) {d : Nat} (hd : d < m.length) (hh : Int) (t : TyM) (r : RefM) :
    Calls Tryz.prog 35 #[.pointer (some ⟨bw, 0, none⟩), .int .i64 d, .int .i64 hh, .agg #[.int .i64 t.dims, .string t.name], .agg #[.bool r.iface, .string r.cls, .string r.name, .string r.desc]] w fun e w' => e = .returned (.int .i64 (startC m d hh t r.iface)) ∧ Below w.heap.size w w' := by
  obtain ⟨wp, hwp⟩ : ∃ wp, (w.alloc (.cells #[.int .i64 t.dims, .string t.name] 33)) = wp := ⟨_, rfl⟩
  have hbp : Below w.heap.size w wp := by rw [← hwp]; exact (Below.refl _ _).alloc (Nat.le_refl _) _
  have t0 : wp.cell? ⟨w.heap.size, 0, none⟩ = some (.int .i64 t.dims) := by rw [← hwp]; exact World.cell?_alloc_new ..
  obtain ⟨wa, hwa⟩ : ∃ wa, (wp.alloc (.cells #[.bool r.iface, .string r.cls, .string r.name, .string r.desc] 30)) = wa := ⟨_, rfl⟩
  have hbq : Below wp.heap.size wp wa := by rw [← hwa]; exact (Below.refl _ _).alloc (Nat.le_refl _) _
  have hba := hbp.trans (hbq.mono hbp.size)
  have p0 := below_cell' hbq t0
  have p1 : wa.cell? ⟨wp.heap.size, 0, none⟩ = some (.bool r.iface) := by rw [← hwa]; exact World.cell?_alloc_new ..
  have HP := Lib.hid (And.intro p0 p1)
  have HC := Lib.hid (Class3 (h.next hba) hd)
  have HB := Lib.hid hba
  have HH := Lib.hid (fun wr (hr : Below w.heap.size w wr) => h.next hr)
  have HR : Hid (startC m d hh t r.iface = if ((t.dims == 0) && !r.iface && !isIfaceM m hh && (hh != (d : Int)) && extM m d hh && (bits .and .i64 (clsAt m d).flags 32 != 0)) = true then (superM m d).1 else hh) := Lib.hid rfl
  obtain ⟨R, hR⟩ : ∃ R, startC m d hh t r.iface = R := ⟨_, rfl⟩
  rw [hR] at HR ⊢
  generalize (clsAt m d).flags = fl at HC HR
  clear h hR hbp t0 hbq hba p0 p1
  generalize r.iface = ri at *
  generalize t.dims = td at *
  go_enter Tryz.func35, Tryz.ntmps35
  go_wp2_with fail
  try rw [hwp]
  try rw [hwa]
  clear hwp hwa
  refine HC.out.mono ?_
  rintro _ w1 ⟨v0, v1, ia, ma, il, ic, ml, mc, l, rfl, hb⟩
  obtain ⟨wx, hwx⟩ : ∃ wx, (w1.alloc (.cells #[.string v0, .string v1, .slice ia il ic, .int .i64 fl, .int .i64 l, .slice ma ml mc] 62)) = wx := ⟨_, rfl⟩
  have hbx : Below w1.heap.size w1 wx := by rw [← hwx]; exact (Below.refl _ _).alloc (Nat.le_refl _) _
  have c3 : wx.cell? ⟨w1.heap.size, 3, none⟩ = some (.int .i64 fl) := by rw [← hwx]; exact World.cell?_alloc_new ..
  have hb' := hb.trans (hbx.mono hb.size)
  have HB1 := Lib.hid (HB.out.trans (hb'.mono HB.out.size))
  have p0 := below_cell' hb' HP.out.1
  have p1 := below_cell' hb' HP.out.2
  have HC3 := Lib.hid c3
  clear hb hbx hb' HC HB HP
  cases htd : (td == 0) with
  | false =>
    have HRX : Hid (R = hh) := Lib.hid (by rw [HR.out, if_neg (by simp [htd])])
    clear HR HH HC3
    go_wp2
    try rw [hwx]
    go_ret
    exact ⟨by rw [HRX.out]; rfl, HB1.out⟩
  | true =>
    cases ri with
    | true =>
      have HRX : Hid (R = hh) := Lib.hid (by rw [HR.out, if_neg (by simp)])
      clear HR HH HC3
      go_wp2
      try rw [hwx]
      go_ret
      exact ⟨by rw [HRX.out]; rfl, HB1.out⟩
    | false =>
      have HI := Lib.hid ((HH.out wx HB1.out).isIface hh)
      go_wp2_with fail
      try rw [hwx]
      clear hwx
      refine HI.out.mono ?_
      rintro _ w2 ⟨rfl, hb⟩
      have HB2 := Lib.hid (HB1.out.trans (hb.mono HB1.out.size))
      have HC32 := Lib.hid (below_cell' hb HC3.out)
      clear hb HI p0 p1 c3 HC3
      cases hif : isIfaceM m hh with
      | true =>
        have HRX : Hid (R = hh) := Lib.hid (by rw [HR.out, if_neg (by simp [hif])])
        clear HR HH HC32
        go_wp2
        go_ret
        exact ⟨by rw [HRX.out]; rfl, HB2.out⟩
      | false =>
        cases hne : (hh != (d : Int)) with
        | false =>
          have HRX : Hid (R = hh) := Lib.hid (by rw [HR.out, if_neg (by simp [hne])])
          clear HR HH HC32
          go_wp2
          go_ret
          exact ⟨by rw [HRX.out]; rfl, HB2.out⟩
        | true =>
          have HX := Lib.hid ((HH.out w2 HB2.out).extends (d : Int) hh)
          go_wp2_with fail
          refine HX.out.mono ?_
          rintro _ w3 ⟨rfl, hb⟩
          have HB3 := Lib.hid (HB2.out.trans (hb.mono HB2.out.size))
          have c3 := below_cell' hb HC32.out
          clear hb HX HC32
          cases hex : extM m (d : Int) hh with
          | false =>
            have HRX : Hid (R = hh) := Lib.hid (by rw [HR.out, if_neg (by simp [hex])])
            clear HR HH
            go_wp2
            go_ret
            exact ⟨by rw [HRX.out]; rfl, HB3.out⟩
          | true =>
            cases hfl : (bits .and .i64 fl 32 != 0) with
            | false =>
              have HRX : Hid (R = hh) := Lib.hid (by rw [HR.out, if_neg (by simp [hfl])])
              clear HR HH
              go_wp2
              go_ret
              exact ⟨by rw [HRX.out]; rfl, HB3.out⟩
            | true =>
              have HRX : Hid (R = (superM m (d : Int)).1) := Lib.hid (by rw [HR.out, if_pos (by rw [htd, hif, hne, hex, hfl]; rfl)])
              have HS := Lib.hid ((HH.out w3 HB3.out).super (d : Int))
              clear HR HH
              go_wp2_with fail
              refine HS.out.mono ?_
              rintro _ w4 ⟨rfl, rfl⟩
              go_wp2
              go_ret
              exact ⟨by rw [HRX.out]; rfl, HB3.out⟩
end Go.Proofs.YtiiebakblkpkeaaGreatDoor.Hi
