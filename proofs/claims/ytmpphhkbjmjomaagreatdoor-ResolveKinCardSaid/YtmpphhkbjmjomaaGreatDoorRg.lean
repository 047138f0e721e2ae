/- A class by its text; a method by its reference: the ways on which all is well. -/
import Derived.Test.YtmpphhkbjmjomaaGreatDoorRk
set_option maxRecDepth 100000
set_option maxHeartbeats 1000000
set_option linter.unusedVariables false
set_option linter.unusedSimpArgs false
namespace Go.Proofs.YtmpphhkbjmjomaaGreatDoor.Hi
open Go.RowKit Bs

/-- The place of a type that is the answer. -/
structure TyAt (w w1 : World) : Prop where
  s0 : w1.cell? ⟨w.heap.size, 0, none⟩ = some (.int .i64 0)
  s1 : w1.cell? ⟨w.heap.size, 1, none⟩ = some (.string ⟨#[]⟩)
  t : ∀ j, w1.frozen? ⟨w.heap.size, j, none⟩ = false
  bel : Below w.heap.size w w1
  lt : w.heap.size < w1.heap.size
theorem TyAt.start (w : World) : TyAt w (w.alloc (.cells #[.int .i64 0, .string ⟨#[]⟩] 34)) :=
  ⟨World.cell?_alloc_new .., World.cell?_alloc_new .., fun j => frozen_new .., (Below.refl _ _).alloc (Nat.le_refl _) _, by simp⟩
theorem TyAt.next {w w1 w2 : World} (h : TyAt w w1) (hb : Below w1.heap.size w1 w2) : TyAt w w2 :=
  ⟨below_cell' hb h.s0, below_cell' hb h.s1, fun j => (World.frozen?_of_block (w := w1) (a := ⟨w.heap.size, j, none⟩) (hb.block _ h.lt)).trans (h.t j), h.bel.trans (hb.mono h.bel.size), Nat.lt_of_lt_of_le h.lt hb.size⟩
theorem TyAt.two {w w1 : World} (h : TyAt w w1) (v0 v1 : Value) : ∀ j (hj : j < [v0, v1].length), ((w1.setCell ⟨w.heap.size, 0, none⟩ v0).setCell ⟨w.heap.size, 1, none⟩ v1).cell? ⟨w.heap.size, j, none⟩ = some [v0, v1][j] := by
  have key := set2 (v0 := v0) (v1 := v1) h.s0 h.s1
  exact Hi.two key.1 key.2
theorem TyAt.end {w w1 : World} (h : TyAt w w1) (v0 v1 : Value) : Below w.heap.size w ((w1.setCell ⟨w.heap.size, 0, none⟩ v0).setCell ⟨w.heap.size, 1, none⟩ v1) :=
  (h.bel.setCell (Nat.le_refl _) _).setCell (Nat.le_refl _) _
theorem type_info2 : (Tryz.prog.info? 34).map (·.size) = some 2 := by kernel_rfl

theorem RClass_ok {bw : Nat} {w : World} {dd : Int} {s : ByteArray} (t : TyM)
    (HC0 : ∀ wr, Below w.heap.size w wr → Calls Tryz.prog 20 #[.pointer (some ⟨bw, 0, none⟩), .int .i64 dd] wr fun r w' => ∃ (v0 v1 : ByteArray) (ia ma : Option Addr) (il ic ml mc : Nat) (f l : Int), r = .returned (.tuple #[.agg #[.string v0, .string v1, .slice ia il ic, .int .i64 f, .int .i64 l, .slice ma ml mc], .int .i64 0]) ∧ Below wr.heap.size wr w')
    (HP0 : ∀ wr, Below w.heap.size w wr → Calls Tryz.prog 23 #[.string s] wr fun r w' => r = .returned (.tuple #[.agg #[.int .i64 t.dims, .string t.name], .int .i64 0]) ∧ Below wr.heap.size wr w')
    (HL0 : ∀ wr, Below w.heap.size w wr → Calls Tryz.prog 24 #[.pointer (some ⟨bw, 0, none⟩), .agg #[.int .i64 t.dims, .string t.name]] wr fun r w' => r = .returned (.int .i64 0) ∧ Below wr.heap.size wr w')
    (HT0 : ∀ wr, Below w.heap.size w wr → Calls Tryz.prog 16 #[.pointer (some ⟨bw, 0, none⟩), .int .i64 dd, .agg #[.int .i64 t.dims, .string t.name]] wr fun r w' => r = .returned (.tuple #[.bool true, .int .i64 0]) ∧ Below wr.heap.size wr w') :
    Calls Tryz.prog 9 #[.pointer (some ⟨bw, 0, none⟩), .int .i64 dd, .string s] w fun r w' => r = .returned (.tuple #[.agg #[.int .i64 t.dims, .string t.name], .int .i64 0]) ∧ Below w.heap.size w w' := by
  have HS := Lib.hid (TyAt.start w)
  have HC := Lib.hid (HC0 _ HS.out.bel)
  have HP := Lib.hid HP0
  have HL := Lib.hid HL0
  have HT := Lib.hid HT0
  clear HC0 HP0 HL0 HT0
  generalize t.dims = dm at *
  generalize t.name = nm at *
  go_enter Tryz.func9, Tryz.ntmps9
  go_wp2_with fail
  refine HC.out.mono ?_
  rintro _ w1 ⟨v0, v1, ia, ma, il, ic, ml, mc, f, l, rfl, hb⟩
  have HB1 := Lib.hid ((HS.out.next hb).next ((Below.refl w1.heap.size w1).alloc (Nat.le_refl _) (.cells #[.string v0, .string v1, .slice ia il ic, .int .i64 f, .int .i64 l, .slice ma ml mc] 54)))
  clear hb HC HS
  go_wp2_with fail
  refine (HP.out _ HB1.out.bel).mono ?_
  rintro _ w2 ⟨rfl, hb⟩
  have HB2 := Lib.hid ((HB1.out.next hb).next ((Below.refl w2.heap.size w2).alloc (Nat.le_refl _) (.cells #[.int .i64 dm, .string nm] 34)))
  have m0 : (w2.alloc (.cells #[.int .i64 dm, .string nm] 34)).cell? ⟨w2.heap.size, 0, none⟩ = some (.int .i64 dm) := World.cell?_alloc_new ..
  have m1 : (w2.alloc (.cells #[.int .i64 dm, .string nm] 34)).cell? ⟨w2.heap.size, 1, none⟩ = some (.string nm) := World.cell?_alloc_new ..
  clear hb HP HB1
  go_wp2_with fail
  refine (HL.out _ HB2.out.bel).mono ?_
  rintro _ w3 ⟨rfl, hb⟩
  have HB3 := Lib.hid (HB2.out.next hb)
  have p0 := below_cell' hb m0
  have p1 := below_cell' hb m1
  clear hb HL HB2 m0 m1
  go_wp2_with fail
  refine (HT.out _ HB3.out.bel).mono ?_
  rintro _ w4 ⟨rfl, hb⟩
  have HB4 := Lib.hid (HB3.out.next hb)
  have m0 := below_cell' hb p0
  have m1 := below_cell' hb p1
  clear hb HT HB3 p0 p1
  have s0 := HB4.out.s0
  have s1 := HB4.out.s1
  have t0 := HB4.out.t 0
  have t1 := HB4.out.t 1
  go_wp2
  refine bodyPost_ret (results_cells_tmp rfl _ _ w.heap.size [.int .i64 dm, .string nm] _ rfl (HB4.out.two _ _) Tryz.underlying34 rfl type_info2) rfl ⟨rfl, HB4.out.end _ _⟩

/-- A struct and two numbers come back. -/
theorem results_cells_tmp2 {P : Program} {fn : Func} {p u v : Tmp} {ty : TypeId} (h : fn.results = #[.cell p ty, .tmp u, .tmp v]) (tmps : Array Value) (w : World) (g : Nat) (cs : List Value) (d : TypeDesc)
    (hp : tmps.getD p undef = .pointer (some ⟨g, 0, none⟩)) (hg : ∀ j (h : j < cs.length), w.cell? ⟨g, j, none⟩ = some cs[j])
    (hu : P.underlying ty = some d) (hd : aggD d = true) (hi : (P.info? ty).map (·.size) = some cs.length) :
    (results fn tmps).run P w = .ok (.tuple #[.agg cs.toArray, tmps.getD u undef, tmps.getD v undef]) w := by
  have hp1 : tmps[p]?.getD undef = .pointer (some ⟨g, 0, none⟩) := by simpa using hp
  simp [results, h, hp1, asAddr, run_loadVar_cells w g ty cs d hg hu hd hi]

/-- The places of found: a type, a reference, a method's place. -/
structure FndAt (w w1 : World) (dm : Int) (nm cls n d : ByteArray) : Prop where
  t0 : w1.cell? ⟨w.heap.size, 0, none⟩ = some (.int .i64 dm)
  t1 : w1.cell? ⟨w.heap.size, 1, none⟩ = some (.string nm)
  r0 : w1.cell? ⟨w.heap.size + 1, 0, none⟩ = some (.bool false)
  r1 : w1.cell? ⟨w.heap.size + 1, 1, none⟩ = some (.string cls)
  r2 : w1.cell? ⟨w.heap.size + 1, 2, none⟩ = some (.string n)
  r3 : w1.cell? ⟨w.heap.size + 1, 3, none⟩ = some (.string d)
  s0 : w1.cell? ⟨w.heap.size + 1 + 1, 0, none⟩ = some (.int .i64 0)
  s1 : w1.cell? ⟨w.heap.size + 1 + 1, 1, none⟩ = some (.int .i64 0)
  t : ∀ j, w1.frozen? ⟨w.heap.size + 1 + 1, j, none⟩ = false
  bel : Below w.heap.size w w1
  lt : w.heap.size + 1 + 1 < w1.heap.size
theorem alloc_at {w : World} {q : Nat} (hq : w.heap.size = q) (cs : Array Value) (t : TypeId) {j : Nat} {v : Value} (hv : cs[j]? = some v) : (w.alloc (.cells cs t)).cell? ⟨q, j, none⟩ = some v := by
  subst hq
  exact (World.cell?_alloc_new ..).trans hv
theorem FndAt.start (w : World) (dm : Int) (nm cls n d : ByteArray) : FndAt w (((w.alloc (.cells #[.int .i64 dm, .string nm] 34)).alloc (.cells #[.bool false, .string cls, .string n, .string d] 24)).alloc (.cells #[.int .i64 0, .int .i64 0] 29)) dm nm cls n d := by
  refine ⟨alloc_old (alloc_old (alloc_at rfl _ _ rfl)), alloc_old (alloc_old (alloc_at rfl _ _ rfl)), alloc_old (alloc_at (by simp) _ _ rfl), alloc_old (alloc_at (by simp) _ _ rfl), alloc_old (alloc_at (by simp) _ _ rfl), alloc_old (alloc_at (by simp) _ _ rfl), alloc_at (by simp) _ _ rfl, alloc_at (by simp) _ _ rfl, fun j => ?_, (((Below.refl _ _).alloc (Nat.le_refl _) _).alloc (by simp) _).alloc (by simp; omega) _, by simp⟩
  have := frozen_new ((w.alloc (.cells #[.int .i64 dm, .string nm] 34)).alloc (.cells #[.bool false, .string cls, .string n, .string d] 24)) #[.int .i64 0, .int .i64 0] 29 j
  rw [World.size_alloc, World.size_alloc] at this
  exact this
theorem FndAt.next {w w1 w2 : World} {dm : Int} {nm cls n d : ByteArray} (h : FndAt w w1 dm nm cls n d) (hb : Below w1.heap.size w1 w2) : FndAt w w2 dm nm cls n d :=
  ⟨below_cell' hb h.t0, below_cell' hb h.t1, below_cell' hb h.r0, below_cell' hb h.r1, below_cell' hb h.r2, below_cell' hb h.r3, below_cell' hb h.s0, below_cell' hb h.s1, fun j => (World.frozen?_of_block (w := w1) (a := ⟨w.heap.size + 1 + 1, j, none⟩) (hb.block _ h.lt)).trans (h.t j), h.bel.trans (hb.mono h.bel.size), Nat.lt_of_lt_of_le h.lt hb.size⟩

theorem RFound_class {bw : Nat} {w : World} {cls n d : ByteArray} {hol : Int} {p : Int × Int} (t : TyM)
    (HH0 : ∀ wr, Below w.heap.size w wr → Calls Tryz.prog 12 #[.pointer (some ⟨bw, 0, none⟩), .agg #[.int .i64 t.dims, .string t.name]] wr fun r w' => r = .returned (.tuple #[.int .i64 hol, .int .i64 0]) ∧ Below wr.heap.size wr w')
    (HL0 : ∀ wr, Below w.heap.size w wr → Calls Tryz.prog 43 #[.pointer (some ⟨bw, 0, none⟩), .int .i64 hol, .string n, .string d] wr fun r w' => r = .returned (.tuple #[.agg #[.int .i64 p.1, .int .i64 p.2], .int .i64 0]) ∧ Below wr.heap.size wr w') :
    Calls Tryz.prog 22 #[.pointer (some ⟨bw, 0, none⟩), .agg #[.int .i64 t.dims, .string t.name], .agg #[.bool false, .string cls, .string n, .string d]] w fun r w' => r = .returned (.tuple #[.agg #[.int .i64 p.1, .int .i64 p.2], .int .i64 hol, .int .i64 0]) ∧ Below w.heap.size w w' := by
  have HS := Lib.hid (FndAt.start w t.dims t.name cls n d)
  have HH := Lib.hid (HH0 _ HS.out.bel)
  have HL := Lib.hid HL0
  clear HH0 HL0
  generalize t.dims = dm at *
  generalize t.name = nm at *
  go_enter Tryz.func22, Tryz.ntmps22
  go_wp2_with fail
  refine HH.out.mono ?_
  rintro _ w1 ⟨rfl, hb⟩
  have HB := Lib.hid (HS.out.next hb)
  have HLX := Lib.hid (HL.out w1 HB.out.bel)
  have t0 := HB.out.t0
  have t1 := HB.out.t1
  have r0 := HB.out.r0
  have r1 := HB.out.r1
  have r2 := HB.out.r2
  have r3 := HB.out.r3
  clear hb HH HS HL
  go_wp2_with fail
  refine HLX.out.mono ?_
  rintro _ w2 ⟨rfl, hb⟩
  have HB2 := Lib.hid (HB.out.next hb)
  clear hb HB HLX t0 t1 r0 r1 r2 r3
  have s0 := HB2.out.s0
  have s1 := HB2.out.s1
  have z0 := HB2.out.t 0
  have z1 := HB2.out.t 1
  go_wp2
  have key0 := set2 (v0 := .int .i64 p.1) (v1 := .int .i64 p.2) s0 s1
  have key := set2 (v0 := .int .i64 p.1) (v1 := .int .i64 p.2) key0.1 key0.2
  have hq : w.heap.size ≤ w.heap.size + 1 + 1 := by omega
  have hbb := (((HB2.out.bel.setCell hq (.int .i64 p.1) (p := ⟨w.heap.size + 1 + 1, 0, none⟩)).setCell hq (.int .i64 p.2) (p := ⟨w.heap.size + 1 + 1, 1, none⟩)).setCell hq (.int .i64 p.1) (p := ⟨w.heap.size + 1 + 1, 0, none⟩)).setCell hq (.int .i64 p.2) (p := ⟨w.heap.size + 1 + 1, 1, none⟩)
  refine bodyPost_ret (results_cells_tmp2 rfl _ _ (w.heap.size + 1 + 1) [.int .i64 p.1, .int .i64 p.2] _ rfl (two key.1 key.2) Tryz.underlying29 rfl id_info2) rfl ⟨rfl, hbb⟩

/-- The places of Method: a reference, a method's place. -/
structure MetAt (w w1 : World) (cls n d : ByteArray) : Prop where
  r0 : w1.cell? ⟨w.heap.size, 0, none⟩ = some (.bool false)
  r1 : w1.cell? ⟨w.heap.size, 1, none⟩ = some (.string cls)
  r2 : w1.cell? ⟨w.heap.size, 2, none⟩ = some (.string n)
  r3 : w1.cell? ⟨w.heap.size, 3, none⟩ = some (.string d)
  s0 : w1.cell? ⟨w.heap.size + 1, 0, none⟩ = some (.int .i64 0)
  s1 : w1.cell? ⟨w.heap.size + 1, 1, none⟩ = some (.int .i64 0)
  t : ∀ j, w1.frozen? ⟨w.heap.size + 1, j, none⟩ = false
  bel : Below w.heap.size w w1
  lt : w.heap.size + 1 < w1.heap.size
theorem MetAt.start (w : World) (cls n d : ByteArray) : MetAt w ((w.alloc (.cells #[.bool false, .string cls, .string n, .string d] 24)).alloc (.cells #[.int .i64 0, .int .i64 0] 29)) cls n d := by
  refine ⟨alloc_old (alloc_at rfl _ _ rfl), alloc_old (alloc_at rfl _ _ rfl), alloc_old (alloc_at rfl _ _ rfl), alloc_old (alloc_at rfl _ _ rfl), alloc_at (by simp) _ _ rfl, alloc_at (by simp) _ _ rfl, fun j => ?_, ((Below.refl _ _).alloc (Nat.le_refl _) _).alloc (by simp) _, by simp⟩
  have := frozen_new (w.alloc (.cells #[.bool false, .string cls, .string n, .string d] 24)) #[.int .i64 0, .int .i64 0] 29 j
  rw [World.size_alloc] at this
  exact this
theorem MetAt.next {w w1 w2 : World} {cls n d : ByteArray} (h : MetAt w w1 cls n d) (hb : Below w1.heap.size w1 w2) : MetAt w w2 cls n d :=
  ⟨below_cell' hb h.r0, below_cell' hb h.r1, below_cell' hb h.r2, below_cell' hb h.r3, below_cell' hb h.s0, below_cell' hb h.s1, fun j => (World.frozen?_of_block (w := w1) (a := ⟨w.heap.size + 1, j, none⟩) (hb.block _ h.lt)).trans (h.t j), h.bel.trans (hb.mono h.bel.size), Nat.lt_of_lt_of_le h.lt hb.size⟩

theorem RMethod_ok {bw : Nat} {w : World} {dd : Int} {cls n d : ByteArray} {hol : Int} {p : Int × Int} (t : TyM)
    (HC0 : ∀ wr, Below w.heap.size w wr → Calls Tryz.prog 20 #[.pointer (some ⟨bw, 0, none⟩), .int .i64 dd] wr fun r w' => ∃ (v0 v1 : ByteArray) (ia ma : Option Addr) (il ic ml mc : Nat) (f l : Int), r = .returned (.tuple #[.agg #[.string v0, .string v1, .slice ia il ic, .int .i64 f, .int .i64 l, .slice ma ml mc], .int .i64 0]) ∧ Below wr.heap.size wr w')
    (HR0 : ∀ wr, Below w.heap.size w wr → Calls Tryz.prog 21 #[.agg #[.bool false, .string cls, .string n, .string d]] wr fun r w' => r = .returned (.int .i64 0) ∧ Below wr.heap.size wr w')
    (HT0 : ∀ wr, Below w.heap.size w wr → Calls Tryz.prog 9 #[.pointer (some ⟨bw, 0, none⟩), .int .i64 dd, .string cls] wr fun r w' => r = .returned (.tuple #[.agg #[.int .i64 t.dims, .string t.name], .int .i64 0]) ∧ Below wr.heap.size wr w')
    (HF0 : ∀ wr, Below w.heap.size w wr → Calls Tryz.prog 22 #[.pointer (some ⟨bw, 0, none⟩), .agg #[.int .i64 t.dims, .string t.name], .agg #[.bool false, .string cls, .string n, .string d]] wr fun r w' => r = .returned (.tuple #[.agg #[.int .i64 p.1, .int .i64 p.2], .int .i64 hol, .int .i64 0]) ∧ Below wr.heap.size wr w')
    (HO0 : ∀ wr, Below w.heap.size w wr → Calls Tryz.prog 15 #[.pointer (some ⟨bw, 0, none⟩), .int .i64 dd, .agg #[.int .i64 p.1, .int .i64 p.2], .int .i64 hol] wr fun r w' => r = .returned (.tuple #[.bool true, .int .i64 0]) ∧ Below wr.heap.size wr w') :
    Calls Tryz.prog 8 #[.pointer (some ⟨bw, 0, none⟩), .int .i64 dd, .agg #[.bool false, .string cls, .string n, .string d]] w fun r w' => r = .returned (.tuple #[.agg #[.int .i64 p.1, .int .i64 p.2], .int .i64 0]) ∧ Below w.heap.size w w' := by
  have HS := Lib.hid (MetAt.start w cls n d)
  have HC := Lib.hid (HC0 _ HS.out.bel)
  have HR := Lib.hid HR0
  have HT := Lib.hid HT0
  have HF := Lib.hid HF0
  have HO := Lib.hid HO0
  clear HC0 HR0 HT0 HF0 HO0
  generalize t.dims = dm at *
  generalize t.name = nm at *
  go_enter Tryz.func8, Tryz.ntmps8
  go_wp2_with fail
  refine HC.out.mono ?_
  rintro _ w1 ⟨v0, v1, ia, ma, il, ic, ml, mc, f, l, rfl, hb⟩
  obtain ⟨wx, hwx⟩ : ∃ wx, (w1.alloc (.cells #[.string v0, .string v1, .slice ia il ic, .int .i64 f, .int .i64 l, .slice ma ml mc] 54)) = wx := ⟨_, rfl⟩
  have hbx : Below w1.heap.size w1 wx := by rw [← hwx]; exact (Below.refl _ _).alloc (Nat.le_refl _) _
  have HB1 := Lib.hid ((HS.out.next hb).next hbx)
  have HRX := Lib.hid (HR.out wx HB1.out.bel)
  clear hb hbx HC HS HR
  have r0 := HB1.out.r0
  have r1 := HB1.out.r1
  have r2 := HB1.out.r2
  have r3 := HB1.out.r3
  go_wp2_with fail
  try rw [hwx]
  clear hwx
  refine HRX.out.mono ?_
  rintro _ w2 ⟨rfl, hb⟩
  have HB2 := Lib.hid (HB1.out.next hb)
  have HTX := Lib.hid (HT.out w2 HB2.out.bel)
  clear hb HB1 HRX HT r0 r1 r2 r3
  have r1 := HB2.out.r1
  go_wp2_with fail
  refine HTX.out.mono ?_
  rintro _ w3 ⟨rfl, hb⟩
  obtain ⟨wx, hwx⟩ : ∃ wx, (w3.alloc (.cells #[.int .i64 dm, .string nm] 34)) = wx := ⟨_, rfl⟩
  have hbx : Below w3.heap.size w3 wx := by rw [← hwx]; exact (Below.refl _ _).alloc (Nat.le_refl _) _
  have m0 : wx.cell? ⟨w3.heap.size, 0, none⟩ = some (.int .i64 dm) := by rw [← hwx]; exact alloc_at rfl _ _ rfl
  have m1 : wx.cell? ⟨w3.heap.size, 1, none⟩ = some (.string nm) := by rw [← hwx]; exact alloc_at rfl _ _ rfl
  have HB3 := Lib.hid ((HB2.out.next hb).next hbx)
  have HFX := Lib.hid (HF.out wx HB3.out.bel)
  clear hb hbx HB2 HTX HF r1
  have r0 := HB3.out.r0
  have r1 := HB3.out.r1
  have r2 := HB3.out.r2
  have r3 := HB3.out.r3
  go_wp2_with fail
  try rw [hwx]
  clear hwx
  refine HFX.out.mono ?_
  rintro _ w4 ⟨rfl, hb⟩
  clear m0 m1 r0 r1 r2 r3
  obtain ⟨wx, hwx⟩ : ∃ wx, (w4.alloc (.cells #[.int .i64 p.1, .int .i64 p.2] 29)) = wx := ⟨_, rfl⟩
  have hbx : Below w4.heap.size w4 wx := by rw [← hwx]; exact (Below.refl _ _).alloc (Nat.le_refl _) _
  have m0 : wx.cell? ⟨w4.heap.size, 0, none⟩ = some (.int .i64 p.1) := by rw [← hwx]; exact alloc_at rfl _ _ rfl
  have m1 : wx.cell? ⟨w4.heap.size, 1, none⟩ = some (.int .i64 p.2) := by rw [← hwx]; exact alloc_at rfl _ _ rfl
  have HB4 := Lib.hid ((HB3.out.next hb).next hbx)
  have HOX := Lib.hid (HO.out wx HB4.out.bel)
  clear hb hbx HB3 HFX HO
  go_wp2_with fail
  try rw [hwx]
  clear hwx
  refine HOX.out.mono ?_
  rintro _ w5 ⟨rfl, hb⟩
  have HB5 := Lib.hid (HB4.out.next hb)
  have k0 := below_cell' hb m0
  have k1 := below_cell' hb m1
  clear hb HB4 HOX m0 m1
  have s0 := HB5.out.s0
  have s1 := HB5.out.s1
  have z0 := HB5.out.t 0
  have z1 := HB5.out.t 1
  go_wp2
  have key := set2 (v0 := .int .i64 p.1) (v1 := .int .i64 p.2) s0 s1
  refine bodyPost_ret (results_cells_tmp rfl _ _ (w.heap.size + 1) [.int .i64 p.1, .int .i64 p.2] _ rfl (two key.1 key.2) Tryz.underlying29 rfl id_info2) rfl ⟨rfl, ?_⟩
  exact (HB5.out.bel.setCell (Nat.le_succ _) _).setCell (Nat.le_succ _) _
end Go.Proofs.YtmpphhkbjmjomaaGreatDoor.Hi
