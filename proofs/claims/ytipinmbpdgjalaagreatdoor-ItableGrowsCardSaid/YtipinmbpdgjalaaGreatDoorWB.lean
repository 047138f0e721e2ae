/- Selection: known, found, up: the walks. -/
import Derived.Test.YtipinmbpdgjalaaGreatDoorWA
import Derived.Test.YtipinmbpdgjalaaGreatDoorFe
set_option maxRecDepth 100000
set_option maxHeartbeats 4000000
set_option linter.unusedVariables false
set_option linter.unusedSimpArgs false
namespace Go.Proofs.YtipinmbpdgjalaaGreatDoor.Hi
open Go.RowKit Go.Shelf Go.Sort Bs

theorem ZmAt.new (w : World) : ZmAt (w.alloc zM) w.heap.size :=
  ⟨World.cell?_alloc_new .., World.cell?_alloc_new .., World.cell?_alloc_new .., World.cell?_alloc_new .., World.cell?_alloc_new .., World.cell?_alloc_new .., fun j => frozen_new ..⟩
theorem ZmAt.next {w w' : World} {g : Nat} (h : ZmAt w g) (hb : Below w.heap.size w w') : ZmAt w' g :=
  ⟨below_cell' hb h.d0, below_cell' hb h.d1, below_cell' hb h.d2, below_cell' hb h.d3, below_cell' hb h.d4, below_cell' hb h.d5, fun j => (World.frozen?_of_block (w := w) (a := ⟨g, j, none⟩) (hb.block _ (World.block_lt_of_cell? w ⟨g, 0, none⟩ h.d0))).trans (h.fz j)⟩
theorem ZmAt.six {w : World} {g : Nat} (h : ZmAt w g) (v0 v1 v2 v3 v4 v5 : Value) : ∀ j (hj : j < [v0, v1, v2, v3, v4, v5].length), ((((((w.setCell ⟨g, 0, none⟩ v0).setCell ⟨g, 1, none⟩ v1).setCell ⟨g, 2, none⟩ v2).setCell ⟨g, 3, none⟩ v3).setCell ⟨g, 4, none⟩ v4).setCell ⟨g, 5, none⟩ v5).cell? ⟨g, j, none⟩ = some [v0, v1, v2, v3, v4, v5][j] := by
  obtain ⟨e0, e1, e2, e3, e4, e5⟩ := set6 (v0 := v0) (v1 := v1) (v2 := v2) (v3 := v3) (v4 := v4) (v5 := v5) h.d0 h.d1 h.d2 h.d3 h.d4 h.d5
  exact Hi.six e0 e1 e2 e3 e4 e5

/-- What known says of a class and a method. -/
theorem CKnown {B bw : Nat} {w0 w : World} {m : List EntM} (h : Built B bw w0 w m) (r : Int) (p : Int × Int) :
    Calls Tryz.prog 68 #[.pointer (some ⟨bw, 0, none⟩), .int .i64 r, .agg #[.int .i64 p.1, .int .i64 p.2]] w fun e w' => ∃ (nm ds : ByteArray) (f l s : Int) (ad : Option Addr) (q c : Nat) (er : Int), e = .returned (.tuple #[.agg #[.string nm, .string ds, .int .i64 f, .int .i64 l, .int .i64 s, .slice ad q c], .int .i64 er]) ∧ (er = 0 → ∃ (k : Nat) (x : MethM), r = k ∧ k < m.length ∧ methAt m p = some x ∧ nm = x.name ∧ ds = x.desc ∧ f = x.flags) ∧ (er ≠ 0 → (entAt m r = none ∨ methAt m p = none) ∧ er = 3) ∧ Below w.heap.size w w' := by
  obtain ⟨wa, hwa⟩ : ∃ wa, ((w.alloc (.cells #[.int .i64 p.1, .int .i64 p.2] 38)).alloc zM) = wa := ⟨_, rfl⟩
  have hba : Below w.heap.size w wa := by rw [← hwa]; exact ((Below.refl _ _).alloc (Nat.le_refl _) _).alloc (by simp) _
  have p0 : wa.cell? ⟨w.heap.size, 0, none⟩ = some (.int .i64 p.1) := by rw [← hwa]; exact alloc_old (World.cell?_alloc_new ..)
  have p1 : wa.cell? ⟨w.heap.size, 1, none⟩ = some (.int .i64 p.2) := by rw [← hwa]; exact alloc_old (World.cell?_alloc_new ..)
  have hz : ZmAt wa (w.heap.size + 1) := by
    rw [← hwa]
    have := ZmAt.new (w.alloc (.cells #[.int .i64 p.1, .int .i64 p.2] 38))
    rw [World.size_alloc] at this
    exact this
  have HBA := Lib.hid hba
  have HZ := Lib.hid hz
  have HP := Lib.hid (And.intro p0 p1)
  cases her : entAt m r with
  | none =>
    have HC := Lib.hid (Class_none ((h.next hba).hw) (h.next hba).live her)
    clear h hba hz p0 p1
    go_enter Tryz.func68, Tryz.ntmps68
    go_wp2_with fail
    try rw [hwa]
    clear hwa
    refine HC.out.mono ?_
    rintro _ w1 ⟨rfl, hb⟩
    have hbb : Below w1.heap.size w1 (w1.alloc (.cells #[.string ⟨#[]⟩, .string ⟨#[]⟩, .slice none 0 0, .int .i64 0, .int .i64 0, .slice none 0 0] 26)) := (Below.refl _ _).alloc (Nat.le_refl _) _
    have hb' := hb.trans (hbb.mono hb.size)
    have HB := Lib.hid (HBA.out.trans (hb'.mono HBA.out.size))
    have HZ1 := Lib.hid (HZ.out.next hb')
    have d0 := HZ1.out.d0
    have d1 := HZ1.out.d1
    have d2 := HZ1.out.d2
    have d3 := HZ1.out.d3
    have d4 := HZ1.out.d4
    have d5 := HZ1.out.d5
    have f0 := HZ1.out.fz 0
    have f1 := HZ1.out.fz 1
    have f2 := HZ1.out.fz 2
    have f3 := HZ1.out.fz 3
    have f4 := HZ1.out.fz 4
    have f5 := HZ1.out.fz 5
    clear hb hbb hb' HC HZ HBA
    go_wp2
    refine bodyPost_ret (results_cells_tmp rfl _ _ (w.heap.size + 1) [.string ⟨#[]⟩, .string ⟨#[]⟩, .int .i64 0, .int .i64 0, .int .i64 0, .slice none 0 0] _ rfl (HZ1.out.six _ _ _ _ _ _) Tryz.underlying55 rfl meth_info) rfl ⟨_, _, _, _, _, _, _, _, _, rfl, fun h => absurd h (by decide), fun _ => ⟨.inl (by trivial), rfl⟩, bel6 HB.out (Nat.le_succ _) _ _ _ _ _ _⟩
  | some e =>
    obtain ⟨k, rfl, hk, _⟩ := entAt_some her
    have HC := Lib.hid (Class2 (h.next hba) hk)
    have HM := Lib.hid (fun wr (hr : Below wa.heap.size wa wr) => MethodAny ((h.next hba).next hr) p)
    have HK := Lib.hid hk
    clear h hba hz p0 p1 her
    go_enter Tryz.func68, Tryz.ntmps68
    go_wp2_with fail
    try rw [hwa]
    clear hwa
    refine HC.out.mono ?_
    rintro _ w1 ⟨c0, c1, ia, ma, il, ic, ml, mc, cf, cl, rfl, hb⟩
    obtain ⟨wb, hwb⟩ : ∃ wb, (w1.alloc (.cells #[.string c0, .string c1, .slice ia il ic, .int .i64 cf, .int .i64 cl, .slice ma ml mc] 26)) = wb := ⟨_, rfl⟩
    have hbb : Below w1.heap.size w1 wb := by rw [← hwb]; exact (Below.refl _ _).alloc (Nat.le_refl _) _
    have hb' := hb.trans (hbb.mono hb.size)
    have HB := Lib.hid (HBA.out.trans (hb'.mono HBA.out.size))
    have HZ1 := Lib.hid (HZ.out.next hb')
    have p0 := below_cell' hb' HP.out.1
    have p1 := below_cell' hb' HP.out.2
    have HMX := Lib.hid (HM.out wb hb')
    clear hb hbb hb' HC HZ HBA HM
    go_wp2_with fail
    try rw [hwb]
    clear hwb
    refine HMX.out.mono ?_
    rintro _ w2 ⟨nm, ds, f, l, s, ad, q, c, er, rfl, g, k', hb⟩
    have HZ2 := Lib.hid (HZ1.out.next hb)
    have HB2 := Lib.hid (HB.out.trans (hb.mono HB.out.size))
    have G := Lib.hid g
    have K := Lib.hid k'
    have d0 := HZ2.out.d0
    have d1 := HZ2.out.d1
    have d2 := HZ2.out.d2
    have d3 := HZ2.out.d3
    have d4 := HZ2.out.d4
    have d5 := HZ2.out.d5
    have f0 := HZ2.out.fz 0
    have f1 := HZ2.out.fz 1
    have f2 := HZ2.out.fz 2
    have f3 := HZ2.out.fz 3
    have f4 := HZ2.out.fz 4
    have f5 := HZ2.out.fz 5
    clear hb g k' HMX HZ1 HB p0 p1
    go_wp2
    refine bodyPost_ret (results_cells_tmp rfl _ _ (w.heap.size + 1) [.string nm, .string ds, .int .i64 f, .int .i64 l, .int .i64 s, .slice ad q c] _ rfl (HZ2.out.six _ _ _ _ _ _) Tryz.underlying55 rfl meth_info) rfl ⟨_, _, _, _, _, _, _, _, _, rfl, fun h => ?_, fun h => ⟨.inr (K.out h).1, (K.out h).2⟩, bel6 HB2.out (Nat.le_succ _) _ _ _ _ _ _⟩
    obtain ⟨x, h1, h2⟩ := G.out h
    exact ⟨k, x, rfl, HK.out, h1, h2⟩
/-- known, of a nil world. -/
theorem CKnown_nil (r : Int) (p : Int × Int) (w : World) : Calls Tryz.prog 68 #[.pointer none, .int .i64 r, .agg #[.int .i64 p.1, .int .i64 p.2]] w fun e w' => e = .returned (.tuple #[zeroMeth, .int .i64 2]) ∧ Below w.heap.size w w' := by
  obtain ⟨wa, hwa⟩ : ∃ wa, ((w.alloc (.cells #[.int .i64 p.1, .int .i64 p.2] 38)).alloc zM) = wa := ⟨_, rfl⟩
  have hba : Below w.heap.size w wa := by rw [← hwa]; exact ((Below.refl _ _).alloc (Nat.le_refl _) _).alloc (by simp) _
  have hz : ZmAt wa (w.heap.size + 1) := by
    rw [← hwa]
    have := ZmAt.new (w.alloc (.cells #[.int .i64 p.1, .int .i64 p.2] 38))
    rw [World.size_alloc] at this
    exact this
  have d0 := hz.d0
  have d1 := hz.d1
  have d2 := hz.d2
  have d3 := hz.d3
  have d4 := hz.d4
  have d5 := hz.d5
  have f0 := hz.fz 0
  have f1 := hz.fz 1
  have f2 := hz.fz 2
  have f3 := hz.fz 3
  have f4 := hz.fz 4
  have f5 := hz.fz 5
  have HB := Lib.hid hba
  have HZ1 := Lib.hid hz
  clear hba hz
  go_enter Tryz.func68, Tryz.ntmps68
  go_wp2
  subst hwa
  refine bodyPost_ret (results_cells_tmp rfl _ _ (w.heap.size + 1) [.string ⟨#[]⟩, .string ⟨#[]⟩, .int .i64 0, .int .i64 0, .int .i64 0, .slice none 0 0] _ rfl (HZ1.out.six _ _ _ _ _ _) Tryz.underlying55 rfl meth_info) rfl ⟨rfl, bel6 HB.out (Nat.le_succ _) _ _ _ _ _ _⟩

/-- A method that was found, unless it is abstract. -/
theorem CFound {B bw : Nat} {w0 w : World} {m : List EntM} (h : Built B bw w0 w m) {q : Int × Int} {y : MethM} (hy : methAt m q = some y) :
    Calls Tryz.prog 70 #[.pointer (some ⟨bw, 0, none⟩), .agg #[.int .i64 q.1, .int .i64 q.2]] w fun e w' => e = .returned (.tuple #[.agg #[.int .i64 (fndM m q).1.1, .int .i64 (fndM m q).1.2], .int .i64 (fndM m q).2]) ∧ Below w.heap.size w w' := by
  obtain ⟨wp, hwp⟩ : ∃ wp, (w.alloc (.cells #[.int .i64 q.1, .int .i64 q.2] 38)) = wp := ⟨_, rfl⟩
  have hbp : Below w.heap.size w wp := by rw [← hwp]; exact (Below.refl _ _).alloc (Nat.le_refl _) _
  have HS := Lib.hid (IdAt.start wp)
  obtain ⟨wa, hwa⟩ : ∃ wa, (wp.alloc (.cells #[.int .i64 0, .int .i64 0] 38)) = wa := ⟨_, rfl⟩
  rw [hwa] at HS
  have p0 : wp.cell? ⟨w.heap.size, 0, none⟩ = some (.int .i64 q.1) := by rw [← hwp]; exact World.cell?_alloc_new ..
  have p1 : wp.cell? ⟨w.heap.size, 1, none⟩ = some (.int .i64 q.2) := by rw [← hwp]; exact World.cell?_alloc_new ..
  have q0 := below_cell' HS.out.bel p0
  have q1 := below_cell' HS.out.bel p1
  have hba := hbp.trans (HS.out.bel.mono hbp.size)
  have HM := Lib.hid (OMethod_some (h.next hba) hy)
  have HBP := Lib.hid hbp
  have HQ := Lib.hid (And.intro q0 q1)
  have HR : Hid (fndM m q = if (bits .and .i64 y.flags 1024 != 0) = true then ((0, 0), 24) else (q, 0)) := Lib.hid (by unfold fndM; rw [hy])
  obtain ⟨R, hR⟩ : ∃ R, fndM m q = R := ⟨_, rfl⟩
  rw [hR] at HR ⊢
  clear h hy hbp hba p0 p1 hR
  have HTWO : Hid (∀ w', IdAt wp w' → (w'.cell? ⟨wp.heap.size, 0, none⟩ = some (.int .i64 0) ∧ w'.cell? ⟨wp.heap.size, 1, none⟩ = some (.int .i64 0) ∧ ∀ j, w'.frozen? ⟨wp.heap.size, j, none⟩ = false) ∧ ∀ v0 v1, (∀ j (hj : j < [v0, v1].length), ((w'.setCell ⟨wp.heap.size, 0, none⟩ v0).setCell ⟨wp.heap.size, 1, none⟩ v1).cell? ⟨wp.heap.size, j, none⟩ = some [v0, v1][j]) ∧ Below w.heap.size w ((w'.setCell ⟨wp.heap.size, 0, none⟩ v0).setCell ⟨wp.heap.size, 1, none⟩ v1)) := Lib.hid (fun w' h => by
    exact ⟨⟨h.s0, h.s1, h.t⟩, fun v0 v1 => ⟨h.two v0 v1, HBP.out.trans ((h.end v0 v1).mono HBP.out.size)⟩⟩)
  go_enter Tryz.func70, Tryz.ntmps70
  go_wp2_with fail
  try rw [hwp]
  try rw [hwa]
  clear hwp hwa
  refine HM.out.mono ?_
  rintro _ w1 ⟨ad, l, c, rfl, hb⟩
  obtain ⟨wx, hwx⟩ : ∃ wx, (w1.alloc (.cells #[.string y.name, .string y.desc, .int .i64 y.flags, .int .i64 y.locals, .int .i64 y.stack, .slice ad l c] 55)) = wx := ⟨_, rfl⟩
  have hbx : Below w1.heap.size w1 wx := by rw [← hwx]; exact (Below.refl _ _).alloc (Nat.le_refl _) _
  have x2 : wx.cell? ⟨w1.heap.size, 2, none⟩ = some (.int .i64 y.flags) := by rw [← hwx]; exact World.cell?_alloc_new ..
  have hb' := hb.trans (hbx.mono hb.size)
  have HS1 := Lib.hid (HS.out.next hb')
  have q0 := below_cell' hb' HQ.out.1
  have q1 := below_cell' hb' HQ.out.2
  obtain ⟨⟨s0, s1, st⟩, hfin⟩ := HTWO.out wx HS1.out
  have t0 := st 0
  have t1 := st 1
  have HFIN := Lib.hid hfin
  clear hb hbx hb' HM HS HQ st hfin HTWO
  cases hab : (bits .and .i64 y.flags 1024 != 0) with
  | true =>
    have G : Hid (R = ((0, 0), 24)) := Lib.hid (by rw [HR.out, hab]; rfl)
    obtain rfl := G.out
    clear HR G
    go_wp2
    try rw [hwx]
    refine bodyPost_ret (results_cells_tmp rfl _ _ (wp.heap.size) [.int .i64 0, .int .i64 0] _ rfl (HFIN.out _ _).1 Tryz.underlying38 rfl id_info2) rfl ⟨rfl, (HFIN.out _ _).2⟩
  | false =>
    have G : Hid (R = (q, 0)) := Lib.hid (by rw [HR.out, hab]; rfl)
    obtain rfl := G.out
    clear HR G
    go_wp2
    try rw [hwx]
    refine bodyPost_ret (results_cells_tmp rfl _ _ (wp.heap.size) [.int .i64 q.1, .int .i64 q.2] _ rfl (HFIN.out _ _).1 Tryz.underlying38 rfl id_info2) rfl ⟨rfl, (HFIN.out _ _).2⟩
end Go.Proofs.YtipinmbpdgjalaaGreatDoor.Hi
/- Selection: up, the first instance method of a name up a chain: the walk. -/
set_option maxRecDepth 100000
set_option maxHeartbeats 8000000
set_option linter.unusedVariables false
set_option linter.unusedSimpArgs false
namespace Go.Proofs.YtipinmbpdgjalaaGreatDoor.Hi
open Go.RowKit Go.Shelf Go.Sort Bs

theorem results_cells_cells_tmp {P : Program} {fn : Func} {p q u : Tmp} {ty ty' : TypeId} (h : fn.results = #[.cell p ty, .cell q ty', .tmp u]) (tmps : Array Value) (w : World) (g g' : Nat) (cs cs' : List Value) (d d' : TypeDesc)
    (hp : tmps.getD p undef = .pointer (some ⟨g, 0, none⟩)) (hg : ∀ j (h : j < cs.length), w.cell? ⟨g, j, none⟩ = some cs[j])
    (hu : P.underlying ty = some d) (hd : aggD d = true) (hi : (P.info? ty).map (·.size) = some cs.length)
    (hp' : tmps.getD q undef = .pointer (some ⟨g', 0, none⟩)) (hg' : ∀ j (h : j < cs'.length), w.cell? ⟨g', j, none⟩ = some cs'[j])
    (hu' : P.underlying ty' = some d') (hd' : aggD d' = true) (hi' : (P.info? ty').map (·.size) = some cs'.length) :
    (results fn tmps).run P w = .ok (.tuple #[.agg cs.toArray, .agg cs'.toArray, tmps.getD u undef]) w := by
  have hp1 : tmps[p]?.getD undef = .pointer (some ⟨g, 0, none⟩) := by simpa using hp
  have hp2 : tmps[q]?.getD undef = .pointer (some ⟨g', 0, none⟩) := by simpa using hp'
  simp [results, h, hp1, hp2, asAddr, run_loadVar_cells w g ty cs d hg hu hd hi, run_loadVar_cells w g' ty' cs' d' hg' hu' hd' hi']

/-- The places of up's answers: an id, behind it a method. -/
structure UpBox (g : Nat) (w : World) (i1 i2 : Int) (nm ds : ByteArray) (f l s : Int) (ad : Option Addr) (q c : Nat) : Prop where
  c0 : w.cell? ⟨g, 0, none⟩ = some (.int .i64 i1)
  c1 : w.cell? ⟨g, 1, none⟩ = some (.int .i64 i2)
  fi : ∀ j, w.frozen? ⟨g, j, none⟩ = false
  m0 : w.cell? ⟨g + 1, 0, none⟩ = some (.string nm)
  m1 : w.cell? ⟨g + 1, 1, none⟩ = some (.string ds)
  m2 : w.cell? ⟨g + 1, 2, none⟩ = some (.int .i64 f)
  m3 : w.cell? ⟨g + 1, 3, none⟩ = some (.int .i64 l)
  m4 : w.cell? ⟨g + 1, 4, none⟩ = some (.int .i64 s)
  m5 : w.cell? ⟨g + 1, 5, none⟩ = some (.slice ad q c)
  fm : ∀ j, w.frozen? ⟨g + 1, j, none⟩ = false
theorem UpBox.new (w : World) : UpBox w.heap.size ((w.alloc (.cells #[.int .i64 0, .int .i64 0] 38)).alloc zM) 0 0 ⟨#[]⟩ ⟨#[]⟩ 0 0 0 none 0 0 := by
  have hz := ZmAt.new (w.alloc (.cells #[.int .i64 0, .int .i64 0] 38))
  rw [World.size_alloc] at hz
  exact ⟨alloc_old (World.cell?_alloc_new ..), alloc_old (World.cell?_alloc_new ..), fun j => (World.frozen?_of_block (w := w.alloc (.cells #[.int .i64 0, .int .i64 0] 38)) (a := ⟨w.heap.size, j, none⟩) (Below.heap_alloc _ _ _ (by simp))).trans (frozen_new ..), hz.d0, hz.d1, hz.d2, hz.d3, hz.d4, hz.d5, hz.fz⟩
section
variable {g : Nat} {w w' : World} {i1 i2 : Int} {nm ds : ByteArray} {f l s : Int} {ad : Option Addr} {q c : Nat}
theorem UpBox.next (h : UpBox g w i1 i2 nm ds f l s ad q c) (hb : Below w.heap.size w w') : UpBox g w' i1 i2 nm ds f l s ad q c :=
  ⟨below_cell' hb h.c0, below_cell' hb h.c1, fun j => (World.frozen?_of_block (w := w) (a := ⟨g, j, none⟩) (hb.block _ (World.block_lt_of_cell? w ⟨g, 0, none⟩ h.c0))).trans (h.fi j), below_cell' hb h.m0, below_cell' hb h.m1, below_cell' hb h.m2, below_cell' hb h.m3, below_cell' hb h.m4, below_cell' hb h.m5, fun j => (World.frozen?_of_block (w := w) (a := ⟨g + 1, j, none⟩) (hb.block _ (World.block_lt_of_cell? w ⟨g + 1, 0, none⟩ h.m0))).trans (h.fm j)⟩
theorem UpBox.ids (h : UpBox g w i1 i2 nm ds f l s ad q c) (v1 v2 : Int) : UpBox g ((w.setCell ⟨g, 0, none⟩ (.int .i64 v1)).setCell ⟨g, 1, none⟩ (.int .i64 v2)) v1 v2 nm ds f l s ad q c := by
  obtain ⟨e0, e1⟩ := set2 (v0 := .int .i64 v1) (v1 := .int .i64 v2) h.c0 h.c1
  have off : ∀ {j : Nat} {v : Value}, w.cell? ⟨g + 1, j, none⟩ = some v → ((w.setCell ⟨g, 0, none⟩ (.int .i64 v1)).setCell ⟨g, 1, none⟩ (.int .i64 v2)).cell? ⟨g + 1, j, none⟩ = some v := fun hv => (setCell_off (by omega)).trans ((setCell_off (by omega)).trans hv)
  exact ⟨e0, e1, fun j => by rw [World.frozen?_setCell, World.frozen?_setCell]; exact h.fi j, off h.m0, off h.m1, off h.m2, off h.m3, off h.m4, off h.m5, fun j => by rw [World.frozen?_setCell, World.frozen?_setCell]; exact h.fm j⟩
theorem UpBox.meth (h : UpBox g w i1 i2 nm ds f l s ad q c) (nm' ds' : ByteArray) (f' l' s' : Int) (ad' : Option Addr) (q' c' : Nat) : UpBox g ((((((w.setCell ⟨g + 1, 0, none⟩ (.string nm')).setCell ⟨g + 1, 1, none⟩ (.string ds')).setCell ⟨g + 1, 2, none⟩ (.int .i64 f')).setCell ⟨g + 1, 3, none⟩ (.int .i64 l')).setCell ⟨g + 1, 4, none⟩ (.int .i64 s')).setCell ⟨g + 1, 5, none⟩ (.slice ad' q' c')) i1 i2 nm' ds' f' l' s' ad' q' c' := by
  obtain ⟨e0, e1, e2, e3, e4, e5⟩ := set6 (v0 := .string nm') (v1 := .string ds') (v2 := .int .i64 f') (v3 := .int .i64 l') (v4 := .int .i64 s') (v5 := .slice ad' q' c') h.m0 h.m1 h.m2 h.m3 h.m4 h.m5
  refine ⟨?_, ?_, fun j => ?_, e0, e1, e2, e3, e4, e5, fun j => ?_⟩
  · iterate 6 rw [setCell_off (by omega)]
    exact h.c0
  · iterate 6 rw [setCell_off (by omega)]
    exact h.c1
  · iterate 6 rw [World.frozen?_setCell]
    exact h.fi j
  · iterate 6 rw [World.frozen?_setCell]
    exact h.fm j
end
theorem UpBox.ends {g : Nat} {w : World} {i1 i2 : Int} {nm ds : ByteArray} {f l s : Int} {ad : Option Addr} {q c : Nat} (h : UpBox g w i1 i2 nm ds f l s ad q c) : (∀ j (hj : j < [Value.int .i64 i1, .int .i64 i2].length), w.cell? ⟨g, j, none⟩ = some [Value.int .i64 i1, .int .i64 i2][j]) ∧ (∀ j (hj : j < [Value.string nm, .string ds, .int .i64 f, .int .i64 l, .int .i64 s, .slice ad q c].length), w.cell? ⟨g + 1, j, none⟩ = some [Value.string nm, .string ds, .int .i64 f, .int .i64 l, .int .i64 s, .slice ad q c][j]) := by
  refine ⟨fun j hj => ?_, six h.m0 h.m1 h.m2 h.m3 h.m4 h.m5⟩
  match j, hj with
  | 0, _ => exact h.c0
  | 1, _ => exact h.c1
/-- What up may turn. -/
def UpF (g : Nat) (k : Nat) : Prop := k = g ∨ k = g + 1
theorem upF_ids {g : Nat} {w w' : World} (h : Chg (UpF g) w w') (v1 v2 : Value) : Chg (UpF g) w ((w'.setCell ⟨g, 0, none⟩ v1).setCell ⟨g, 1, none⟩ v2) := (h.setCell (.inr (.inl rfl)) _).setCell (.inr (.inl rfl)) _
theorem upF_meth {g : Nat} {w w' : World} (h : Chg (UpF g) w w') (v0 v1 v2 v3 v4 v5 : Value) : Chg (UpF g) w ((((((w'.setCell ⟨g + 1, 0, none⟩ v0).setCell ⟨g + 1, 1, none⟩ v1).setCell ⟨g + 1, 2, none⟩ v2).setCell ⟨g + 1, 3, none⟩ v3).setCell ⟨g + 1, 4, none⟩ v4).setCell ⟨g + 1, 5, none⟩ v5) :=
  (((((h.setCell (.inr (.inr rfl)) _).setCell (.inr (.inr rfl)) _).setCell (.inr (.inr rfl)) _).setCell (.inr (.inr rfl)) _).setCell (.inr (.inr rfl)) _).setCell (.inr (.inr rfl)) _

theorem CUp {B bw : Nat} {w0 w : World} {m : List EntM} (h : Built B bw w0 w m) {cc : Nat} (hc : cc < m.length) (n d : ByteArray) (f0 l0 s0 : Int) (ad0 : Option Addr) (q0 c0 : Nat) :
    Calls Tryz.prog 69 #[.pointer (some ⟨bw, 0, none⟩), .int .i64 cc, .agg #[.string n, .string d, .int .i64 f0, .int .i64 l0, .int .i64 s0, .slice ad0 q0 c0]] w fun e w' => ∃ (i1 i2 : Int) (nm ds : ByteArray) (f l s : Int) (ad : Option Addr) (q c : Nat) (ok : Bool), e = .returned (.tuple #[.agg #[.int .i64 i1, .int .i64 i2], .agg #[.string nm, .string ds, .int .i64 f, .int .i64 l, .int .i64 s, .slice ad q c], .bool ok]) ∧ (ok = false → upE m n d cc = none) ∧ (ok = true → upE m n d cc = some (i1, i2) ∧ ∃ y, methAt m (i1, i2) = some y ∧ f = y.flags) ∧ Below w.heap.size w w' := by
  obtain ⟨wp, hwp⟩ : ∃ wp, (w.alloc (.cells #[.string n, .string d, .int .i64 f0, .int .i64 l0, .int .i64 s0, .slice ad0 q0 c0] 55)) = wp := ⟨_, rfl⟩
  have hbp : Below w.heap.size w wp := by rw [← hwp]; exact (Below.refl _ _).alloc (Nat.le_refl _) _
  have hzp : wp.heap.size = w.heap.size + 1 := by rw [← hwp]; simp
  have x0 : wp.cell? ⟨w.heap.size, 0, none⟩ = some (.string n) := by rw [← hwp]; exact World.cell?_alloc_new ..
  have x1 : wp.cell? ⟨w.heap.size, 1, none⟩ = some (.string d) := by rw [← hwp]; exact World.cell?_alloc_new ..
  have HU := UpBox.new wp
  obtain ⟨wa, hwa⟩ : ∃ wa, ((wp.alloc (.cells #[.int .i64 0, .int .i64 0] 38)).alloc zM) = wa := ⟨_, rfl⟩
  have hba : Below wp.heap.size wp wa := by rw [← hwa]; exact ((Below.refl _ _).alloc (Nat.le_refl _) _).alloc (by simp) _
  have hza : wa.heap.size = wp.heap.size + 2 := by rw [← hwa]; simp
  rw [hwa] at HU
  have hb := hbp.trans (hba.mono hbp.size)
  have HUB := Lib.hid HU
  have HX := Lib.hid (And.intro (below_cell' hba x0) (below_cell' hba x1))
  have HB := Lib.hid hb
  have HC := Lib.hid (Chain (h.next hb).hw (h.next hb).live (cc : Int))
  have HCE : Hid (chainM m (cc : Int) = (ch m cc, 0)) := Lib.hid (by unfold ch chainM; rw [entAt_nat hc])
  rw [HCE.out] at HC
  simp only at HC
  have HH := Lib.hid (fun wr (hr : Below w.heap.size w wr) => h.next hr)
  have HLM : Hid (∀ k (hk : k < (ch m cc).length), ∃ c : Nat, (ch m cc)[k] = (c : Int) ∧ c < m.length) := Lib.hid (fun k hk => by
    obtain ⟨c, e, _, h, _⟩ := ch_mem h.wf hc _ (List.getElem_mem hk)
    exact ⟨c, e, h⟩)
  have hll : (ch m cc).length ≤ 300 := ch_len_le h.wf hc
  have HUE : Hid (upE m n d cc = (ch m cc).findSome? (decM m n d)) := Lib.hid rfl
  obtain ⟨R, hR⟩ : ∃ R, upE m n d cc = R := ⟨_, rfl⟩
  rw [hR] at HUE ⊢
  have HSZ : Hid (wa.heap.size = wp.heap.size + 2 ∧ wp.heap.size = w.heap.size + 1) := Lib.hid ⟨hza, hzp⟩
  generalize ch m cc = L at HC HLM hll HUE
  clear h hR hbp x0 x1 HU hba hb hzp hza HCE
  go_enter Tryz.func69, Tryz.ntmps69
  go_wp2
  try rw [hwp]
  try rw [hwa]
  clear hwp hwa
  go_step3
  go_wp2_with fail
  refine HC.out.mono ?_
  rintro _ w2 ⟨ca, cp, rfl, hcs, hb⟩
  have HB2 := Lib.hid (HB.out.trans (hb.mono HB.out.size))
  have HUB2 := Lib.hid (HUB.out.next hb)
  have HX2 := Lib.hid (And.intro (below_cell' hb HX.out.1) (below_cell' hb HX.out.2))
  have HCS := Lib.hid hcs
  have HSZ2 : Hid (wp.heap.size + 2 ≤ wa.heap.size ∧ wp.heap.size + 2 ≤ w2.heap.size ∧ wp.heap.size = w.heap.size + 1) := Lib.hid (by have := hb.size; have := HSZ.out; omega)
  clear hb hcs HC HB HUB HX HSZ
  go_wp2_with fail
  go_step3
  go_wp2_with fail
  go_loopg [8, 23] L.length (fun gk u8 u23 wr => ∃ (k : Nat) (i1 i2 : Int) (nm ds : ByteArray) (f l s : Int) (ad : Option Addr) (q c : Nat), Hid (k + gk = L.length ∧ ∀ j (hj : j < L.length), j < k → decM m n d L[j] = none) ∧ u8 = .bool false ∧ u23 = .int .i64 k ∧ Hid (UpBox wp.heap.size wr i1 i2 nm ds f l s ad q c ∧ Chg (UpF wp.heap.size) w2 wr))
  case atStart => exact ⟨0, 0, 0, ⟨#[]⟩, ⟨#[]⟩, 0, 0, 0, none, 0, 0, Lib.hid ⟨Nat.zero_add _, fun _ _ h => absurd h (by omega)⟩, rfl, rfl, Lib.hid ⟨HUB2.out, Chg.refl _ _⟩⟩
  case round =>
    obtain ⟨k, i1, i2, nm, ds, f, l, s, ad, q, c, hk, rfl, rfl, HW⟩ := hrel
    have HBR : Hid (Below w.heap.size w wr) := Lib.hid (HB2.out.trans (HW.out.2.below HB2.out.size fun k hk hf => by have := HSZ2.out; rcases hf with rfl | rfl <;> omega))
    by_cases hlt : k < L.length
    · have hlt' : (k : Int) < (L.length : Int) := by omega
      obtain ⟨c, hc, hcm⟩ := HLM.out k hlt
      obtain ⟨cb, co, rfl, hce⟩ := IntSl.elem (HCS.out.alike (Alike.of_chg HW.out.2 fun k hk => ⟨hk.2, fun hf => by have := HSZ2.out; rcases hf with rfl | rfl <;> omega⟩)) (by omega)
      have g0 := hce k c (by rw [List.getElem?_eq_getElem hlt, hc])
      have x0 := HW.out.2.cell_eq HX2.out.1 (by have := HSZ2.out; rintro (h | h) <;> simp at h <;> omega)
      have x1 := HW.out.2.cell_eq HX2.out.2 (by have := HSZ2.out; rintro (h | h) <;> simp at h <;> omega)
      have HF := Lib.hid ((HH.out wr HBR.out).find hcm n d)
      have HU := Lib.hid HW.out.1
      have HCG := Lib.hid HW.out.2
      have HPR : Hid (∀ hn : decM m n d (c : Int) = none, ∀ j (hj : j < L.length), j < k + 1 → decM m n d L[j] = none) := Lib.hid (fun hn j hj hlt => by
        by_cases e : j = k
        · subst e; rw [hc]; exact hn
        · exact hk.out.2 j hj (by omega))
      have HSM : Hid (∀ z, decM m n d (c : Int) = some z → R = some z) := Lib.hid (fun z hz => by
        rw [HUE.out]
        refine List.findSome?_eq_some_iff.2 ⟨L.take k, (c : Int), L.drop (k + 1), ?_, hz, fun a ha => ?_⟩
        · rw [← hc, ← List.drop_eq_getElem_cons hlt, List.take_append_drop]
        · obtain ⟨j, hj, rfl⟩ := List.getElem_of_mem ha
          rw [List.getElem_take]
          exact hk.out.2 j _ (by simp at hj; omega))
      have HGK : Hid (k + gk = L.length) := Lib.hid hk.out.1
      have HDC : Hid (decM m n d (c : Int) = if (findH m c n d).2 = 0 then (match methAt m (c, (findH m c n d).1) with
        | none => none
        | some y => if statF y.flags = true then none else some ((c : Int), (findH m c n d).1)) else none) := Lib.hid rfl
      have HNM : Hid ((findH m c n d).2 = 0 → ∃ y, methAt m ((c : Int), (findH m c n d).1) = some y) := Lib.hid (fun h0 => by
        obtain ⟨b, hb, _, h, _⟩ := find_names hcm h0
        exact ⟨_, h⟩)
      obtain ⟨⟨fi, fe⟩, hF⟩ : ∃ R, findH m c n d = R := ⟨_, rfl⟩
      rw [hF] at HF HDC HNM
      simp only at HF HDC HNM
      clear hF HW hce hk hc
      go_wp2_with fail
      refine HF.out.mono ?_
      rintro _ w3 ⟨rfl, hb⟩
      have HU3 := Lib.hid (HU.out.next hb)
      have HC3 : Hid (Chg (UpF wp.heap.size) w2 w3) := Lib.hid (HCG.out.trans (Chg.of_below (F := fun _ => False) hb) fun _ _ h => h.elim)
      clear hb x0 x1 g0 HU HCG HF HBR
      by_cases hfe : fe = 0
      case neg =>
        have hfe' : (fe != 0) = true := by simpa using hfe
        have HDN := Lib.hid (HPR.out (by rw [HDC.out, if_neg hfe]))
        clear hfe HPR HSM HDC HNM
        go_wp2
        go_roundg (L.length - (k + 1))
        case measure => have := HGK.out; omega
        case rel => exact ⟨k + 1, i1, i2, nm, ds, f, l, s, ad, q, _, Lib.hid ⟨by have := HGK.out; omega, HDN.out⟩, rfl, by go_num, Lib.hid ⟨HU3.out, HC3.out⟩⟩
      subst hfe
      obtain ⟨y, hy⟩ := HNM.out rfl
      have c0 := HU3.out.c0
      have c1 := HU3.out.c1
      have f0 := HU3.out.fi 0
      have f1 := HU3.out.fi 1
      have hi := HU3.out.ids c fi
      have HU4 := Lib.hid hi
      have e0 := hi.c0
      have e1 := hi.c1
      have hc4 := upF_ids HC3.out (.int .i64 c) (.int .i64 fi)
      have HC4 := Lib.hid hc4
      have hb4 : Below w.heap.size w _ := HB2.out.trans (hc4.below HB2.out.size fun k hk hf => by have := HSZ2.out; rcases hf with rfl | rfl <;> omega)
      have HM := Lib.hid (OMethod_some (HH.out _ hb4) hy)
      have HYD : Hid (decM m n d (c : Int) = if statF y.flags = true then none else some ((c : Int), fi)) := Lib.hid (by rw [HDC.out, if_pos rfl, hy])
      have HYY := Lib.hid hy
      clear hi hc4 hb4 hy HNM HDC
      go_wp2_with fail
      refine HM.out.mono ?_
      rintro _ w5 ⟨ya, yq, yc, rfl, hb⟩
      have hu5 := HU4.out.next hb
      have hc5 : Chg (UpF wp.heap.size) w2 w5 := HC4.out.trans (Chg.of_below (F := fun _ => False) hb) fun _ _ h => h.elim
      have d0 := hu5.m0
      have d1 := hu5.m1
      have d2 := hu5.m2
      have d3 := hu5.m3
      have d4 := hu5.m4
      have d5 := hu5.m5
      have v0 := hu5.fm 0
      have v1 := hu5.fm 1
      have v2 := hu5.fm 2
      have v3 := hu5.fm 3
      have v4 := hu5.fm 4
      have v5 := hu5.fm 5
      have hu6 := hu5.meth y.name y.desc y.flags y.locals y.stack ya yq yc
      have hc6 := upF_meth hc5 (.string y.name) (.string y.desc) (.int .i64 y.flags) (.int .i64 y.locals) (.int .i64 y.stack) (.slice ya yq yc)
      obtain ⟨wz, hwz⟩ : ∃ wz, ((((((w5.setCell ⟨wp.heap.size + 1, 0, none⟩ (.string y.name)).setCell ⟨wp.heap.size + 1, 1, none⟩ (.string y.desc)).setCell ⟨wp.heap.size + 1, 2, none⟩ (.int .i64 y.flags)).setCell ⟨wp.heap.size + 1, 3, none⟩ (.int .i64 y.locals)).setCell ⟨wp.heap.size + 1, 4, none⟩ (.int .i64 y.stack)).setCell ⟨wp.heap.size + 1, 5, none⟩ (.slice ya yq yc)) = wz := ⟨_, rfl⟩
      rw [hwz] at hu6 hc6
      have k2 := hu6.m2
      have HU6 := Lib.hid hu6
      have HC6 := Lib.hid hc6
      clear hu5 hc5 hu6 hc6 hb HM HU3 HC3 HU4 HC4 c0 c1 f0 f1 e0 e1
      cases hst : statF y.flags with
      | true =>
        have HDN := Lib.hid (HPR.out (by rw [HYD.out, hst]; rfl))
        have hst' : (bits .and .i64 y.flags 8 == 0) = false := by unfold statF at hst; simpa using hst
        clear hst HPR HSM HYD
        go_wp2
        try rw [hwz]
        go_roundg (L.length - (k + 1))
        case measure => have := HGK.out; omega
        case rel => exact ⟨k + 1, _, _, _, _, _, _, _, _, _, _, Lib.hid ⟨by have := HGK.out; omega, HDN.out⟩, rfl, by go_num, Lib.hid ⟨HU6.out, HC6.out⟩⟩
      | false =>
        have HRS := Lib.hid (HSM.out _ (by rw [HYD.out, hst]; rfl))
        have hst' : (bits .and .i64 y.flags 8 == 0) = true := by unfold statF at hst; simpa using hst
        clear hst HPR HSM HYD
        have hu7 := (HU6.out.ids c fi).meth y.name y.desc y.flags y.locals y.stack ya yq yc
        have hc7 := upF_meth (upF_ids HC6.out (.int .i64 c) (.int .i64 fi)) (.string y.name) (.string y.desc) (.int .i64 y.flags) (.int .i64 y.locals) (.int .i64 y.stack) (.slice ya yq yc)
        have HU7 := Lib.hid (hu7.next (Below.drew (Below.refl _ _)))
        have HB7 := Lib.hid (HB2.out.trans (hc7.drew.below HB2.out.size fun k hk hf => by have := HSZ2.out; rcases hf with rfl | rfl <;> omega))
        clear hu7 hc7
        have c0 := HU6.out.c0
        have c1 := HU6.out.c1
        have f0 := HU6.out.fi 0
        have f1 := HU6.out.fi 1
        have e0 := HU6.out.m0
        have e1 := HU6.out.m1
        have e3 := HU6.out.m3
        have e4 := HU6.out.m4
        have e5 := HU6.out.m5
        have g0 := HU6.out.fm 0
        have g1 := HU6.out.fm 1
        have g2 := HU6.out.fm 2
        have g3 := HU6.out.fm 3
        have g4 := HU6.out.fm 4
        have g5 := HU6.out.fm 5
        go_wp2_with fail
        try rw [hwz]
        clear hwz d0 d1 d2 d3 d4 d5 v0 v1 v2 v3 v4 v5
        go_region_with (fail)
        all_goals
          go_wp2
          try rw [Exit.noGoto_ret]
          refine bodyPost_ret (results_cells_cells_tmp rfl _ _ wp.heap.size (wp.heap.size + 1) [.int .i64 c, .int .i64 fi] [.string y.name, .string y.desc, .int .i64 y.flags, .int .i64 y.locals, .int .i64 y.stack, .slice ya yq yc] _ _ rfl HU7.out.ends.1 Tryz.underlying38 rfl id_info2 rfl HU7.out.ends.2 Tryz.underlying55 rfl meth_info) rfl ⟨_, _, _, _, _, _, _, _, _, _, _, rfl, fun h => Bool.noConfusion h, fun _ => ⟨HRS.out, y, HYY.out, rfl⟩, HB7.out⟩
    · have HRN : Hid (R = none) := Lib.hid (by
        rw [HUE.out]
        refine List.findSome?_eq_none_iff.2 fun a ha => ?_
        obtain ⟨j, hj, rfl⟩ := List.getElem_of_mem ha
        exact hk.out.2 j hj (by omega))
      have hu7 := (HW.out.1.ids i1 i2).meth nm ds f l s ad q c
      have hc7 := upF_meth (upF_ids HW.out.2 (.int .i64 i1) (.int .i64 i2)) (.string nm) (.string ds) (.int .i64 f) (.int .i64 l) (.int .i64 s) (.slice ad q c)
      have HU7 := Lib.hid (hu7.next (Below.drew (Below.refl _ _)))
      have HB7 := Lib.hid (HB2.out.trans (hc7.drew.below HB2.out.size fun k hk hf => by have := HSZ2.out; rcases hf with rfl | rfl <;> omega))
      clear hu7 hc7
      have c0 := HW.out.1.c0
      have c1 := HW.out.1.c1
      have f0 := HW.out.1.fi 0
      have f1 := HW.out.1.fi 1
      have e0 := HW.out.1.m0
      have e1 := HW.out.1.m1
      have e2 := HW.out.1.m2
      have e3 := HW.out.1.m3
      have e4 := HW.out.1.m4
      have e5 := HW.out.1.m5
      have g0 := HW.out.1.fm 0
      have g1 := HW.out.1.fm 1
      have g2 := HW.out.1.fm 2
      have g3 := HW.out.1.fm 3
      have g4 := HW.out.1.fm 4
      have g5 := HW.out.1.fm 5
      clear hk HBR
      go_wp2_with fail
      go_region_with (fail)
      all_goals
        go_wp2
        try rw [Exit.noGoto_ret]
        refine bodyPost_ret (results_cells_cells_tmp rfl _ _ wp.heap.size (wp.heap.size + 1) [.int .i64 i1, .int .i64 i2] [.string nm, .string ds, .int .i64 f, .int .i64 l, .int .i64 s, .slice ad q c] _ _ rfl HU7.out.ends.1 Tryz.underlying38 rfl id_info2 rfl HU7.out.ends.2 Tryz.underlying55 rfl meth_info) rfl ⟨_, _, _, _, _, _, _, _, _, _, _, rfl, fun _ => HRN.out, fun h => Bool.noConfusion h, HB7.out⟩
end Go.Proofs.YtipinmbpdgjalaaGreatDoor.Hi
