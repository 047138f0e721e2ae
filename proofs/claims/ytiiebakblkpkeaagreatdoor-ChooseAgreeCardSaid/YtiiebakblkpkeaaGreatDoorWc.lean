/- Selection: known, found, up: the walks. -/
import Derived.Test.YtiiebakblkpkeaaGreatDoorWb
import Derived.Test.YtiiebakblkpkeaaGreatDoorFe
set_option maxRecDepth 100000
set_option maxHeartbeats 4000000
set_option linter.unusedVariables false
set_option linter.unusedSimpArgs false
namespace Go.Proofs.YtiiebakblkpkeaaGreatDoor.Hi
open Go.RowKit Go.Shelf Go.Sort Bs

theorem ZmAt.new (w : World) : ZmAt (w.alloc zM) w.heap.size :=
  ⟨World.cell?_alloc_new .., World.cell?_alloc_new .., World.cell?_alloc_new .., World.cell?_alloc_new .., World.cell?_alloc_new .., World.cell?_alloc_new .., fun j => frozen_new ..⟩
theorem ZmAt.next {w w' : World} {g : Nat} (h : ZmAt w g) (hb : Below w.heap.size w w') : ZmAt w' g :=
  ⟨below_cell' hb h.d0, below_cell' hb h.d1, below_cell' hb h.d2, below_cell' hb h.d3, below_cell' hb h.d4, below_cell' hb h.d5, fun j => (World.frozen?_of_block (w := w) (a := ⟨g, j, none⟩) (hb.block _ (World.block_lt_of_cell? w ⟨g, 0, none⟩ h.d0))).trans (h.fz j)⟩
theorem ZmAt.six {w : World} {g : Nat} (h : ZmAt w g) (v0 v1 v2 v3 v4 v5 : Value) : ∀ j (hj : j < [v0, v1, v2, v3, v4, v5].length), ((((((w.setCell ⟨g, 0, none⟩ v0).setCell ⟨g, 1, none⟩ v1).setCell ⟨g, 2, none⟩ v2).setCell ⟨g, 3, none⟩ v3).setCell ⟨g, 4, none⟩ v4).setCell ⟨g, 5, none⟩ v5).cell? ⟨g, j, none⟩ = some [v0, v1, v2, v3, v4, v5][j] := by
  obtain ⟨e0, e1, e2, e3, e4, e5⟩ := set6 (v0 := v0) (v1 := v1) (v2 := v2) (v3 := v3) (v4 := v4) (v5 := v5) h.d0 h.d1 h.d2 h.d3 h.d4 h.d5
  exact Hi.six e0 e1 e2 e3 e4 e5

/-- What known says of a class and a method. -/
theorem CKnown {B bw : Nat} {w0 w : World} {m : List EntM} (h : Built B bw w0 w m) (r : Int) (p : Int × Int) :
    Calls Tryz.prog 28 #[.pointer (some ⟨bw, 0, none⟩), .int .i64 r, .agg #[.int .i64 p.1, .int .i64 p.2]] w fun e w' => ∃ (nm ds : ByteArray) (f l s : Int) (ad : Option Addr) (q c : Nat) (er : Int), e = .returned (.tuple #[.agg #[.string nm, .string ds, .int .i64 f, .int .i64 l, .int .i64 s, .slice ad q c], .int .i64 er]) ∧ (er = 0 → ∃ (k : Nat) (x : MethM), r = k ∧ k < m.length ∧ methAt m p = some x ∧ nm = x.name ∧ ds = x.desc ∧ f = x.flags) ∧ (er ≠ 0 → (entAt m r = none ∨ methAt m p = none) ∧ er = 3) ∧ Below w.heap.size w w' := by
  obtain ⟨wa, hwa⟩ : ∃ wa, ((w.alloc (.cells #[.int .i64 p.1, .int .i64 p.2] 24)).alloc zM) = wa := ⟨_, rfl⟩
  have hba : Below w.heap.size w wa := by rw [← hwa]; exact ((Below.refl _ _).alloc (Nat.le_refl _) _).alloc (by simp) _
  have p0 : wa.cell? ⟨w.heap.size, 0, none⟩ = some (.int .i64 p.1) := by rw [← hwa]; exact alloc_old (World.cell?_alloc_new ..)
  have p1 : wa.cell? ⟨w.heap.size, 1, none⟩ = some (.int .i64 p.2) := by rw [← hwa]; exact alloc_old (World.cell?_alloc_new ..)
  have hz : ZmAt wa (w.heap.size + 1) := by
    rw [← hwa]
    have := ZmAt.new (w.alloc (.cells #[.int .i64 p.1, .int .i64 p.2] 24))
    rw [World.size_alloc] at this
    exact this
  have HBA := Lib.hid hba
  have HZ := Lib.hid hz
  have HP := Lib.hid (And.intro p0 p1)
  cases her : entAt m r with
  | none =>
    have HC := Lib.hid (Class_none ((h.next hba).hw) (h.next hba).live her)
    clear h hba hz p0 p1
    go_enter Tryz.func28, Tryz.ntmps28
    go_wp2_with fail
    try rw [hwa]
    clear hwa
    refine HC.out.mono ?_
    rintro _ w1 ⟨rfl, hb⟩
    have hbb : Below w1.heap.size w1 (w1.alloc (.cells #[.string ⟨#[]⟩, .string ⟨#[]⟩, .slice none 0 0, .int .i64 0, .int .i64 0, .slice none 0 0] 62)) := (Below.refl _ _).alloc (Nat.le_refl _) _
    have hb' := hb.trans (hbb.mono hb.size)
    have HB := Lib.hid (HBA.out.trans (hb'.mono HBA.out.size))
    have HZ1 := Lib.hid (HZ.out.next hb')
    have d0 := HZ1.out.d0
    have d1 := HZ1.out.d1
    have d2 := HZ1.out.d2
    have d3 := HZ1.out.d3
    have d4 := HZ1.out.d4
    have d5 := HZ1.out.d5
    have f0 := HZ1.out.fz 0
    have f1 := HZ1.out.fz 1
    have f2 := HZ1.out.fz 2
    have f3 := HZ1.out.fz 3
    have f4 := HZ1.out.fz 4
    have f5 := HZ1.out.fz 5
    clear hb hbb hb' HC HZ HBA
    go_wp2
    refine bodyPost_ret (results_cells_tmp rfl _ _ (w.heap.size + 1) [.string ⟨#[]⟩, .string ⟨#[]⟩, .int .i64 0, .int .i64 0, .int .i64 0, .slice none 0 0] _ rfl (HZ1.out.six _ _ _ _ _ _) Tryz.underlying39 rfl meth_info) rfl ⟨_, _, _, _, _, _, _, _, _, rfl, fun h => absurd h (by decide), fun _ => ⟨.inl (by trivial), rfl⟩, bel6 HB.out (Nat.le_succ _) _ _ _ _ _ _⟩
  | some e =>
    obtain ⟨k, rfl, hk, _⟩ := entAt_some her
    have HC := Lib.hid (Class2 (h.next hba) hk)
    have HM := Lib.hid (fun wr (hr : Below wa.heap.size wa wr) => MethodAny ((h.next hba).next hr) p)
    have HK := Lib.hid hk
    clear h hba hz p0 p1 her
    go_enter Tryz.func28, Tryz.ntmps28
    go_wp2_with fail
    try rw [hwa]
    clear hwa
    refine HC.out.mono ?_
    rintro _ w1 ⟨c0, c1, ia, ma, il, ic, ml, mc, cf, cl, rfl, hb⟩
    obtain ⟨wb, hwb⟩ : ∃ wb, (w1.alloc (.cells #[.string c0, .string c1, .slice ia il ic, .int .i64 cf, .int .i64 cl, .slice ma ml mc] 62)) = wb := ⟨_, rfl⟩
    have hbb : Below w1.heap.size w1 wb := by rw [← hwb]; exact (Below.refl _ _).alloc (Nat.le_refl _) _
    have hb' := hb.trans (hbb.mono hb.size)
    have HB := Lib.hid (HBA.out.trans (hb'.mono HBA.out.size))
    have HZ1 := Lib.hid (HZ.out.next hb')
    have p0 := below_cell' hb' HP.out.1
    have p1 := below_cell' hb' HP.out.2
    have HMX := Lib.hid (HM.out wb hb')
    clear hb hbb hb' HC HZ HBA HM
    go_wp2_with fail
    try rw [hwb]
    clear hwb
    refine HMX.out.mono ?_
    rintro _ w2 ⟨nm, ds, f, l, s, ad, q, c, er, rfl, g, k', hb⟩
    have HZ2 := Lib.hid (HZ1.out.next hb)
    have HB2 := Lib.hid (HB.out.trans (hb.mono HB.out.size))
    have G := Lib.hid g
    have K := Lib.hid k'
    have d0 := HZ2.out.d0
    have d1 := HZ2.out.d1
    have d2 := HZ2.out.d2
    have d3 := HZ2.out.d3
    have d4 := HZ2.out.d4
    have d5 := HZ2.out.d5
    have f0 := HZ2.out.fz 0
    have f1 := HZ2.out.fz 1
    have f2 := HZ2.out.fz 2
    have f3 := HZ2.out.fz 3
    have f4 := HZ2.out.fz 4
    have f5 := HZ2.out.fz 5
    clear hb g k' HMX HZ1 HB p0 p1
    go_wp2
    refine bodyPost_ret (results_cells_tmp rfl _ _ (w.heap.size + 1) [.string nm, .string ds, .int .i64 f, .int .i64 l, .int .i64 s, .slice ad q c] _ rfl (HZ2.out.six _ _ _ _ _ _) Tryz.underlying39 rfl meth_info) rfl ⟨_, _, _, _, _, _, _, _, _, rfl, fun h => ?_, fun h => ⟨.inr (K.out h).1, (K.out h).2⟩, bel6 HB2.out (Nat.le_succ _) _ _ _ _ _ _⟩
    obtain ⟨x, h1, h2⟩ := G.out h
    exact ⟨k, x, rfl, HK.out, h1, h2⟩
/-- known, of a nil world. -/
theorem CKnown_nil (r : Int) (p : Int × Int) (w : World) : Calls Tryz.prog 28 #[.pointer none, .int .i64 r, .agg #[.int .i64 p.1, .int .i64 p.2]] w fun e w' => e = .returned (.tuple #[zeroMeth, .int .i64 2]) ∧ Below w.heap.size w w' := by
  obtain ⟨wa, hwa⟩ : ∃ wa, ((w.alloc (.cells #[.int .i64 p.1, .int .i64 p.2] 24)).alloc zM) = wa := ⟨_, rfl⟩
  have hba : Below w.heap.size w wa := by rw [← hwa]; exact ((Below.refl _ _).alloc (Nat.le_refl _) _).alloc (by simp) _
  have hz : ZmAt wa (w.heap.size + 1) := by
    rw [← hwa]
    have := ZmAt.new (w.alloc (.cells #[.int .i64 p.1, .int .i64 p.2] 24))
    rw [World.size_alloc] at this
    exact this
  have d0 := hz.d0
  have d1 := hz.d1
  have d2 := hz.d2
  have d3 := hz.d3
  have d4 := hz.d4
  have d5 := hz.d5
  have f0 := hz.fz 0
  have f1 := hz.fz 1
  have f2 := hz.fz 2
  have f3 := hz.fz 3
  have f4 := hz.fz 4
  have f5 := hz.fz 5
  have HB := Lib.hid hba
  have HZ1 := Lib.hid hz
  clear hba hz
  go_enter Tryz.func28, Tryz.ntmps28
  go_wp2
  subst hwa
  refine bodyPost_ret (results_cells_tmp rfl _ _ (w.heap.size + 1) [.string ⟨#[]⟩, .string ⟨#[]⟩, .int .i64 0, .int .i64 0, .int .i64 0, .slice none 0 0] _ rfl (HZ1.out.six _ _ _ _ _ _) Tryz.underlying39 rfl meth_info) rfl ⟨rfl, bel6 HB.out (Nat.le_succ _) _ _ _ _ _ _⟩

/-- A method that was found, unless it is abstract. -/
theorem CFound {B bw : Nat} {w0 w : World} {m : List EntM} (h : Built B bw w0 w m) {q : Int × Int} {y : MethM} (hy : methAt m q = some y) :
    Calls Tryz.prog 30 #[.pointer (some ⟨bw, 0, none⟩), .agg #[.int .i64 q.1, .int .i64 q.2]] w fun e w' => e = .returned (.tuple #[.agg #[.int .i64 (fndM m q).1.1, .int .i64 (fndM m q).1.2], .int .i64 (fndM m q).2]) ∧ Below w.heap.size w w' := by
  obtain ⟨wp, hwp⟩ : ∃ wp, (w.alloc (.cells #[.int .i64 q.1, .int .i64 q.2] 24)) = wp := ⟨_, rfl⟩
  have hbp : Below w.heap.size w wp := by rw [← hwp]; exact (Below.refl _ _).alloc (Nat.le_refl _) _
  have HS := Lib.hid (IdAt.start wp)
  obtain ⟨wa, hwa⟩ : ∃ wa, (wp.alloc (.cells #[.int .i64 0, .int .i64 0] 24)) = wa := ⟨_, rfl⟩
  rw [hwa] at HS
  have p0 : wp.cell? ⟨w.heap.size, 0, none⟩ = some (.int .i64 q.1) := by rw [← hwp]; exact World.cell?_alloc_new ..
  have p1 : wp.cell? ⟨w.heap.size, 1, none⟩ = some (.int .i64 q.2) := by rw [← hwp]; exact World.cell?_alloc_new ..
  have q0 := below_cell' HS.out.bel p0
  have q1 := below_cell' HS.out.bel p1
  have hba := hbp.trans (HS.out.bel.mono hbp.size)
  have HM := Lib.hid (OMethod_some (h.next hba) hy)
  have HBP := Lib.hid hbp
  have HQ := Lib.hid (And.intro q0 q1)
  have HR : Hid (fndM m q = if (bits .and .i64 y.flags 1024 != 0) = true then ((0, 0), 24) else (q, 0)) := Lib.hid (by unfold fndM; rw [hy])
  obtain ⟨R, hR⟩ : ∃ R, fndM m q = R := ⟨_, rfl⟩
  rw [hR] at HR ⊢
  clear h hy hbp hba p0 p1 hR
  have HTWO : Hid (∀ w', IdAt wp w' → (w'.cell? ⟨wp.heap.size, 0, none⟩ = some (.int .i64 0) ∧ w'.cell? ⟨wp.heap.size, 1, none⟩ = some (.int .i64 0) ∧ ∀ j, w'.frozen? ⟨wp.heap.size, j, none⟩ = false) ∧ ∀ v0 v1, (∀ j (hj : j < [v0, v1].length), ((w'.setCell ⟨wp.heap.size, 0, none⟩ v0).setCell ⟨wp.heap.size, 1, none⟩ v1).cell? ⟨wp.heap.size, j, none⟩ = some [v0, v1][j]) ∧ Below w.heap.size w ((w'.setCell ⟨wp.heap.size, 0, none⟩ v0).setCell ⟨wp.heap.size, 1, none⟩ v1)) := Lib.hid (fun w' h => by
    exact ⟨⟨h.s0, h.s1, h.t⟩, fun v0 v1 => ⟨h.two v0 v1, HBP.out.trans ((h.end v0 v1).mono HBP.out.size)⟩⟩)
  go_enter Tryz.func30, Tryz.ntmps30
  go_wp2_with fail
  try rw [hwp]
  try rw [hwa]
  clear hwp hwa
  refine HM.out.mono ?_
  rintro _ w1 ⟨ad, l, c, rfl, hb⟩
  obtain ⟨wx, hwx⟩ : ∃ wx, (w1.alloc (.cells #[.string y.name, .string y.desc, .int .i64 y.flags, .int .i64 y.locals, .int .i64 y.stack, .slice ad l c] 39)) = wx := ⟨_, rfl⟩
  have hbx : Below w1.heap.size w1 wx := by rw [← hwx]; exact (Below.refl _ _).alloc (Nat.le_refl _) _
  have x2 : wx.cell? ⟨w1.heap.size, 2, none⟩ = some (.int .i64 y.flags) := by rw [← hwx]; exact World.cell?_alloc_new ..
  have hb' := hb.trans (hbx.mono hb.size)
  have HS1 := Lib.hid (HS.out.next hb')
  have q0 := below_cell' hb' HQ.out.1
  have q1 := below_cell' hb' HQ.out.2
  obtain ⟨⟨s0, s1, st⟩, hfin⟩ := HTWO.out wx HS1.out
  have t0 := st 0
  have t1 := st 1
  have HFIN := Lib.hid hfin
  clear hb hbx hb' HM HS HQ st hfin HTWO
  cases hab : (bits .and .i64 y.flags 1024 != 0) with
  | true =>
    have G : Hid (R = ((0, 0), 24)) := Lib.hid (by rw [HR.out, hab]; rfl)
    obtain rfl := G.out
    clear HR G
    go_wp2
    try rw [hwx]
    refine bodyPost_ret (results_cells_tmp rfl _ _ (wp.heap.size) [.int .i64 0, .int .i64 0] _ rfl (HFIN.out _ _).1 Tryz.underlying24 rfl id_info2) rfl ⟨rfl, (HFIN.out _ _).2⟩
  | false =>
    have G : Hid (R = (q, 0)) := Lib.hid (by rw [HR.out, hab]; rfl)
    obtain rfl := G.out
    clear HR G
    go_wp2
    try rw [hwx]
    refine bodyPost_ret (results_cells_tmp rfl _ _ (wp.heap.size) [.int .i64 q.1, .int .i64 q.2] _ rfl (HFIN.out _ _).1 Tryz.underlying24 rfl id_info2) rfl ⟨rfl, (HFIN.out _ _).2⟩
end Go.Proofs.YtiiebakblkpkeaaGreatDoor.Hi
