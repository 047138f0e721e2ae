/- found, Method, whatever the steps answer. -/
import Derived.Test.YtmpphhkbjmjomaaGreatDoorUa
set_option maxRecDepth 100000
set_option maxHeartbeats 1000000
set_option linter.unusedVariables false
set_option linter.unusedSimpArgs false
namespace Go.Proofs.YtmpphhkbjmjomaaGreatDoor.Hi
open Go.RowKit Bs

/-- The places of found: a type, a reference, a method's place (whatever the reference's Iface). -/
structure FndAt2 (w w1 : World) (dm : Int) (nm : ByteArray) (ifc : Bool) (cls n d : ByteArray) : Prop where
  t0 : w1.cell? ⟨w.heap.size, 0, none⟩ = some (.int .i64 dm)
  t1 : w1.cell? ⟨w.heap.size, 1, none⟩ = some (.string nm)
  r0 : w1.cell? ⟨w.heap.size + 1, 0, none⟩ = some (.bool ifc)
  r1 : w1.cell? ⟨w.heap.size + 1, 1, none⟩ = some (.string cls)
  r2 : w1.cell? ⟨w.heap.size + 1, 2, none⟩ = some (.string n)
  r3 : w1.cell? ⟨w.heap.size + 1, 3, none⟩ = some (.string d)
  s0 : w1.cell? ⟨w.heap.size + 1 + 1, 0, none⟩ = some (.int .i64 0)
  s1 : w1.cell? ⟨w.heap.size + 1 + 1, 1, none⟩ = some (.int .i64 0)
  t : ∀ j, w1.frozen? ⟨w.heap.size + 1 + 1, j, none⟩ = false
  bel : Below w.heap.size w w1
  lt : w.heap.size + 1 + 1 < w1.heap.size
theorem FndAt2.start (w : World) (dm : Int) (nm : ByteArray) (ifc : Bool) (cls n d : ByteArray) : FndAt2 w (((w.alloc (.cells #[.int .i64 dm, .string nm] 34)).alloc (.cells #[.bool ifc, .string cls, .string n, .string d] 24)).alloc (.cells #[.int .i64 0, .int .i64 0] 29)) dm nm ifc cls n d := by
  refine ⟨alloc_old (alloc_old (alloc_at rfl _ _ rfl)), alloc_old (alloc_old (alloc_at rfl _ _ rfl)), alloc_old (alloc_at (by simp) _ _ rfl), alloc_old (alloc_at (by simp) _ _ rfl), alloc_old (alloc_at (by simp) _ _ rfl), alloc_old (alloc_at (by simp) _ _ rfl), alloc_at (by simp) _ _ rfl, alloc_at (by simp) _ _ rfl, fun j => ?_, (((Below.refl _ _).alloc (Nat.le_refl _) _).alloc (by simp) _).alloc (by simp; omega) _, by simp⟩
  have := frozen_new ((w.alloc (.cells #[.int .i64 dm, .string nm] 34)).alloc (.cells #[.bool ifc, .string cls, .string n, .string d] 24)) #[.int .i64 0, .int .i64 0] 29 j
  rw [World.size_alloc, World.size_alloc] at this
  exact this
theorem FndAt2.next {w w1 w2 : World} {dm : Int} {nm : ByteArray} {ifc : Bool} {cls n d : ByteArray} (h : FndAt2 w w1 dm nm ifc cls n d) (hb : Below w1.heap.size w1 w2) : FndAt2 w w2 dm nm ifc cls n d :=
  ⟨below_cell' hb h.t0, below_cell' hb h.t1, below_cell' hb h.r0, below_cell' hb h.r1, below_cell' hb h.r2, below_cell' hb h.r3, below_cell' hb h.s0, below_cell' hb h.s1, fun j => (World.frozen?_of_block (w := w1) (a := ⟨w.heap.size + 1 + 1, j, none⟩) (hb.block _ h.lt)).trans (h.t j), h.bel.trans (hb.mono h.bel.size), Nat.lt_of_lt_of_le h.lt hb.size⟩

theorem RFound_any {bw : Nat} {w : World} {ifc : Bool} {cls n d : ByteArray} {hol he : Int} (pe : (Int × Int) × Int) (t : TyM)
    (HH0 : ∀ wr, Below w.heap.size w wr → Calls Tryz.prog 12 #[.pointer (some ⟨bw, 0, none⟩), .agg #[.int .i64 t.dims, .string t.name]] wr fun r w' => r = .returned (.tuple #[.int .i64 hol, .int .i64 he]) ∧ Below wr.heap.size wr w')
    (HI0 : ifc = true → ¬ 0 < t.dims → ∀ wr, Below w.heap.size w wr → Calls Tryz.prog 42 #[.pointer (some ⟨bw, 0, none⟩), .int .i64 hol, .string n, .string d] wr fun r w' => r = .returned (.tuple #[.agg #[.int .i64 pe.1.1, .int .i64 pe.1.2], .int .i64 pe.2]) ∧ Below wr.heap.size wr w')
    (HL0 : ifc = false → ∀ wr, Below w.heap.size w wr → Calls Tryz.prog 43 #[.pointer (some ⟨bw, 0, none⟩), .int .i64 hol, .string n, .string d] wr fun r w' => r = .returned (.tuple #[.agg #[.int .i64 pe.1.1, .int .i64 pe.1.2], .int .i64 pe.2]) ∧ Below wr.heap.size wr w')
    (hx : ifc = true → 0 < t.dims → pe = ((0, 0), 23)) :
    Calls Tryz.prog 22 #[.pointer (some ⟨bw, 0, none⟩), .agg #[.int .i64 t.dims, .string t.name], .agg #[.bool ifc, .string cls, .string n, .string d]] w fun r w' => r = .returned (.tuple #[.agg #[.int .i64 pe.1.1, .int .i64 pe.1.2], .int .i64 hol, .int .i64 pe.2]) ∧ Below w.heap.size w w' := by
  have HS := Lib.hid (FndAt2.start w t.dims t.name ifc cls n d)
  have HH := Lib.hid (HH0 _ HS.out.bel)
  have HI := Lib.hid HI0
  have HL := Lib.hid HL0
  have HX := Lib.hid hx
  clear HH0 HL0 HI0 hx
  obtain ⟨⟨p1, p2⟩, e⟩ := pe
  obtain ⟨dm, nm⟩ := t
  simp only at HS HH HI HL HX ⊢
  go_enter Tryz.func22, Tryz.ntmps22
  go_wp2_with fail
  refine HH.out.mono ?_
  rintro _ w1 ⟨rfl, hb⟩
  have HB := Lib.hid (HS.out.next hb)
  have t0 := HB.out.t0
  have t1 := HB.out.t1
  have r0 := HB.out.r0
  have r1 := HB.out.r1
  have r2 := HB.out.r2
  have r3 := HB.out.r3
  have hq : w.heap.size ≤ w.heap.size + 1 + 1 := by omega
  clear hb HH HS
  cases ifc
  · have HLX := Lib.hid (HL.out (by trivial) w1 HB.out.bel)
    clear HL HI HX
    go_wp2_with fail
    refine HLX.out.mono ?_
    rintro _ w2 ⟨rfl, hb⟩
    have HB2 := Lib.hid (HB.out.next hb)
    clear hb HB HLX t0 t1 r0 r1 r2 r3
    have s0 := HB2.out.s0
    have s1 := HB2.out.s1
    have z0 := HB2.out.t 0
    have z1 := HB2.out.t 1
    go_wp2
    have key0 := set2 (v0 := .int .i64 p1) (v1 := .int .i64 p2) s0 s1
    have key := set2 (v0 := .int .i64 p1) (v1 := .int .i64 p2) key0.1 key0.2
    have hbb := (((HB2.out.bel.setCell hq (.int .i64 p1) (p := ⟨w.heap.size + 1 + 1, 0, none⟩)).setCell hq (.int .i64 p2) (p := ⟨w.heap.size + 1 + 1, 1, none⟩)).setCell hq (.int .i64 p1) (p := ⟨w.heap.size + 1 + 1, 0, none⟩)).setCell hq (.int .i64 p2) (p := ⟨w.heap.size + 1 + 1, 1, none⟩)
    refine bodyPost_ret (results_cells_tmp2 rfl _ _ (w.heap.size + 1 + 1) [.int .i64 p1, .int .i64 p2] _ rfl (two key.1 key.2) Tryz.underlying29 rfl id_info2) rfl ⟨rfl, hbb⟩
  · by_cases hd : 0 < dm
    · have HE := Lib.hid (HX.out (by trivial) hd)
      have hd' : decide (0 < dm) = true := decide_eq_true hd
      have s0 := HB.out.s0
      have s1 := HB.out.s1
      have z0 := HB.out.t 0
      have z1 := HB.out.t 1
      clear HL HI HX hd
      have hbb := (HB.out.bel.setCell hq (.int .i64 0) (p := ⟨w.heap.size + 1 + 1, 0, none⟩)).setCell hq (.int .i64 0) (p := ⟨w.heap.size + 1 + 1, 1, none⟩)
      have key := set2 (v0 := .int .i64 0) (v1 := .int .i64 0) s0 s1
      have HBB := Lib.hid hbb
      have HKEY := Lib.hid key
      clear hbb key
      go_wp2
      have he := HE.out
      injection he with he1 he3
      injection he1 with he1 he2
      refine bodyPost_ret (results_cells_tmp2 rfl _ _ (w.heap.size + 1 + 1) [.int .i64 0, .int .i64 0] _ rfl (two HKEY.out.1 HKEY.out.2) Tryz.underlying29 rfl id_info2) rfl ⟨by rw [he1, he2, he3]; rfl, HBB.out⟩
    · have HIX := Lib.hid (HI.out (by trivial) (by omega) w1 HB.out.bel)
      have hd' : decide (0 < dm) = false := decide_eq_false hd
      clear HL HI HX hd
      go_wp2_with fail
      refine HIX.out.mono ?_
      rintro _ w2 ⟨rfl, hb⟩
      have HB2 := Lib.hid (HB.out.next hb)
      clear hb HB HIX t0 t1 r0 r1 r2 r3
      have s0 := HB2.out.s0
      have s1 := HB2.out.s1
      have z0 := HB2.out.t 0
      have z1 := HB2.out.t 1
      go_wp2
      have key0 := set2 (v0 := .int .i64 p1) (v1 := .int .i64 p2) s0 s1
      have key := set2 (v0 := .int .i64 p1) (v1 := .int .i64 p2) key0.1 key0.2
      have hbb := (((HB2.out.bel.setCell hq (.int .i64 p1) (p := ⟨w.heap.size + 1 + 1, 0, none⟩)).setCell hq (.int .i64 p2) (p := ⟨w.heap.size + 1 + 1, 1, none⟩)).setCell hq (.int .i64 p1) (p := ⟨w.heap.size + 1 + 1, 0, none⟩)).setCell hq (.int .i64 p2) (p := ⟨w.heap.size + 1 + 1, 1, none⟩)
      refine bodyPost_ret (results_cells_tmp2 rfl _ _ (w.heap.size + 1 + 1) [.int .i64 p1, .int .i64 p2] _ rfl (two key.1 key.2) Tryz.underlying29 rfl id_info2) rfl ⟨rfl, hbb⟩

/-- The places of Method: a reference, a method's place (whatever the reference's Iface). -/
structure MetAt2 (w w1 : World) (ifc : Bool) (cls n d : ByteArray) : Prop where
  r0 : w1.cell? ⟨w.heap.size, 0, none⟩ = some (.bool ifc)
  r1 : w1.cell? ⟨w.heap.size, 1, none⟩ = some (.string cls)
  r2 : w1.cell? ⟨w.heap.size, 2, none⟩ = some (.string n)
  r3 : w1.cell? ⟨w.heap.size, 3, none⟩ = some (.string d)
  s0 : w1.cell? ⟨w.heap.size + 1, 0, none⟩ = some (.int .i64 0)
  s1 : w1.cell? ⟨w.heap.size + 1, 1, none⟩ = some (.int .i64 0)
  t : ∀ j, w1.frozen? ⟨w.heap.size + 1, j, none⟩ = false
  bel : Below w.heap.size w w1
  lt : w.heap.size + 1 < w1.heap.size
theorem MetAt2.start (w : World) (ifc : Bool) (cls n d : ByteArray) : MetAt2 w ((w.alloc (.cells #[.bool ifc, .string cls, .string n, .string d] 24)).alloc (.cells #[.int .i64 0, .int .i64 0] 29)) ifc cls n d := by
  refine ⟨alloc_old (alloc_at rfl _ _ rfl), alloc_old (alloc_at rfl _ _ rfl), alloc_old (alloc_at rfl _ _ rfl), alloc_old (alloc_at rfl _ _ rfl), alloc_at (by simp) _ _ rfl, alloc_at (by simp) _ _ rfl, fun j => ?_, ((Below.refl _ _).alloc (Nat.le_refl _) _).alloc (by simp) _, by simp⟩
  have := frozen_new (w.alloc (.cells #[.bool ifc, .string cls, .string n, .string d] 24)) #[.int .i64 0, .int .i64 0] 29 j
  rw [World.size_alloc] at this
  exact this
theorem MetAt2.next {w w1 w2 : World} {ifc : Bool} {cls n d : ByteArray} (h : MetAt2 w w1 ifc cls n d) (hb : Below w1.heap.size w1 w2) : MetAt2 w w2 ifc cls n d :=
  ⟨below_cell' hb h.r0, below_cell' hb h.r1, below_cell' hb h.r2, below_cell' hb h.r3, below_cell' hb h.s0, below_cell' hb h.s1, fun j => (World.frozen?_of_block (w := w1) (a := ⟨w.heap.size + 1, j, none⟩) (hb.block _ h.lt)).trans (h.t j), h.bel.trans (hb.mono h.bel.size), Nat.lt_of_lt_of_le h.lt hb.size⟩
theorem MetAt2.two {w w1 : World} {ifc : Bool} {cls n d : ByteArray} (h : MetAt2 w w1 ifc cls n d) (v0 v1 : Value) : ∀ j (hj : j < [v0, v1].length), ((w1.setCell ⟨w.heap.size + 1, 0, none⟩ v0).setCell ⟨w.heap.size + 1, 1, none⟩ v1).cell? ⟨w.heap.size + 1, j, none⟩ = some [v0, v1][j] := by
  have key := set2 (v0 := v0) (v1 := v1) h.s0 h.s1
  exact Hi.two key.1 key.2
theorem MetAt2.end {w w1 : World} {ifc : Bool} {cls n d : ByteArray} (h : MetAt2 w w1 ifc cls n d) (v0 v1 : Value) : Below w.heap.size w ((w1.setCell ⟨w.heap.size + 1, 0, none⟩ v0).setCell ⟨w.heap.size + 1, 1, none⟩ v1) :=
  (h.bel.setCell (Nat.le_succ _) _).setCell (Nat.le_succ _) _

theorem RMethod_any {bw : Nat} {w : World} {dd : Int} {ifc : Bool} {cls n d : ByteArray} (t : TyM) (re ce fe hol : Int) (p : Int × Int) (op : Bool)
    (HC0 : ∀ wr, Below w.heap.size w wr → Calls Tryz.prog 20 #[.pointer (some ⟨bw, 0, none⟩), .int .i64 dd] wr fun r w' => ∃ (v0 v1 : ByteArray) (ia ma : Option Addr) (il ic ml mc : Nat) (f l : Int), r = .returned (.tuple #[.agg #[.string v0, .string v1, .slice ia il ic, .int .i64 f, .int .i64 l, .slice ma ml mc], .int .i64 0]) ∧ Below wr.heap.size wr w')
    (HR0 : ∀ wr, Below w.heap.size w wr → Calls Tryz.prog 21 #[.agg #[.bool ifc, .string cls, .string n, .string d]] wr fun r w' => r = .returned (.int .i64 re) ∧ Below wr.heap.size wr w')
    (HT0 : re = 0 → ∀ wr, Below w.heap.size w wr → Calls Tryz.prog 9 #[.pointer (some ⟨bw, 0, none⟩), .int .i64 dd, .string cls] wr fun r w' => r = .returned (.tuple #[.agg #[.int .i64 t.dims, .string t.name], .int .i64 ce]) ∧ Below wr.heap.size wr w')
    (HF0 : re = 0 → ce = 0 → ∀ wr, Below w.heap.size w wr → Calls Tryz.prog 22 #[.pointer (some ⟨bw, 0, none⟩), .agg #[.int .i64 t.dims, .string t.name], .agg #[.bool ifc, .string cls, .string n, .string d]] wr fun r w' => r = .returned (.tuple #[.agg #[.int .i64 p.1, .int .i64 p.2], .int .i64 hol, .int .i64 fe]) ∧ Below wr.heap.size wr w')
    (HO0 : re = 0 → ce = 0 → fe = 0 → ∀ wr, Below w.heap.size w wr → Calls Tryz.prog 15 #[.pointer (some ⟨bw, 0, none⟩), .int .i64 dd, .agg #[.int .i64 p.1, .int .i64 p.2], .int .i64 hol] wr fun r w' => r = .returned (.tuple #[.bool op, .int .i64 0]) ∧ Below wr.heap.size wr w')
    (q1 q2 e : Int) (hq : ((q1, q2), e) = if re ≠ 0 then ((0, 0), re) else if ce ≠ 0 then ((0, 0), ce) else if fe ≠ 0 then ((0, 0), fe) else if op = true then (p, 0) else ((0, 0), 22)) :
    Calls Tryz.prog 8 #[.pointer (some ⟨bw, 0, none⟩), .int .i64 dd, .agg #[.bool ifc, .string cls, .string n, .string d]] w fun r w' => r = .returned (.tuple #[.agg #[.int .i64 q1, .int .i64 q2], .int .i64 e]) ∧ Below w.heap.size w w' := by
  have HS := Lib.hid (MetAt2.start w ifc cls n d)
  have HC := Lib.hid (HC0 _ HS.out.bel)
  have HR := Lib.hid HR0
  have HT := Lib.hid HT0
  have HF := Lib.hid HF0
  have HO := Lib.hid HO0
  have HQ := Lib.hid hq
  clear HC0 HR0 HT0 HF0 HO0 hq
  obtain ⟨dm, nm⟩ := t
  obtain ⟨p1, p2⟩ := p
  simp only at HT HF HO
  go_enter Tryz.func8, Tryz.ntmps8
  go_wp2_with fail
  refine HC.out.mono ?_
  rintro _ w1 ⟨v0, v1, ia, ma, il, ic, ml, mc, f, l, rfl, hb⟩
  obtain ⟨wx, hwx⟩ : ∃ wx, (w1.alloc (.cells #[.string v0, .string v1, .slice ia il ic, .int .i64 f, .int .i64 l, .slice ma ml mc] 54)) = wx := ⟨_, rfl⟩
  have hbx : Below w1.heap.size w1 wx := by rw [← hwx]; exact (Below.refl _ _).alloc (Nat.le_refl _) _
  have HB1 := Lib.hid ((HS.out.next hb).next hbx)
  have HRX := Lib.hid (HR.out wx HB1.out.bel)
  clear hb hbx HC HS HR
  have r0 := HB1.out.r0
  have r1 := HB1.out.r1
  have r2 := HB1.out.r2
  have r3 := HB1.out.r3
  go_wp2_with fail
  try rw [hwx]
  clear hwx
  refine HRX.out.mono ?_
  rintro _ w2 ⟨rfl, hb⟩
  have HB2 := Lib.hid (HB1.out.next hb)
  clear hb HB1 HRX r0 r1 r2 r3
  by_cases hre : re = 0
  · subst hre
    have HTX := Lib.hid (HT.out (by trivial) w2 HB2.out.bel)
    have r1 := HB2.out.r1
    clear HT
    go_wp2_with fail
    refine HTX.out.mono ?_
    rintro _ w3 ⟨rfl, hb⟩
    have HB3 := Lib.hid (HB2.out.next hb)
    clear hb HB2 HTX r1
    by_cases hce : ce = 0
    · subst hce
      obtain ⟨wx, hwx⟩ : ∃ wx, (w3.alloc (.cells #[.int .i64 dm, .string nm] 34)) = wx := ⟨_, rfl⟩
      have hbx : Below w3.heap.size w3 wx := by rw [← hwx]; exact (Below.refl _ _).alloc (Nat.le_refl _) _
      have m0 : wx.cell? ⟨w3.heap.size, 0, none⟩ = some (.int .i64 dm) := by rw [← hwx]; exact alloc_at rfl _ _ rfl
      have m1 : wx.cell? ⟨w3.heap.size, 1, none⟩ = some (.string nm) := by rw [← hwx]; exact alloc_at rfl _ _ rfl
      have HB4 := Lib.hid (HB3.out.next hbx)
      have HFX := Lib.hid (HF.out (by trivial) (by trivial) wx HB4.out.bel)
      clear hbx HB3 HF
      have r0 := HB4.out.r0
      have r1 := HB4.out.r1
      have r2 := HB4.out.r2
      have r3 := HB4.out.r3
      go_wp2_with fail
      try rw [hwx]
      clear hwx
      refine HFX.out.mono ?_
      rintro _ w4 ⟨rfl, hb⟩
      clear m0 m1 r0 r1 r2 r3
      have HB5 := Lib.hid (HB4.out.next hb)
      clear hb HB4 HFX
      by_cases hfe : fe = 0
      · subst hfe
        obtain ⟨wx, hwx⟩ : ∃ wx, (w4.alloc (.cells #[.int .i64 p1, .int .i64 p2] 29)) = wx := ⟨_, rfl⟩
        have hbx : Below w4.heap.size w4 wx := by rw [← hwx]; exact (Below.refl _ _).alloc (Nat.le_refl _) _
        have m0 : wx.cell? ⟨w4.heap.size, 0, none⟩ = some (.int .i64 p1) := by rw [← hwx]; exact alloc_at rfl _ _ rfl
        have m1 : wx.cell? ⟨w4.heap.size, 1, none⟩ = some (.int .i64 p2) := by rw [← hwx]; exact alloc_at rfl _ _ rfl
        have HB6 := Lib.hid (HB5.out.next hbx)
        have HOX := Lib.hid (HO.out (by trivial) (by trivial) (by trivial) wx HB6.out.bel)
        clear hbx HB5 HO
        go_wp2_with fail
        try rw [hwx]
        clear hwx
        refine HOX.out.mono ?_
        rintro _ w5 ⟨rfl, hb⟩
        have HB7 := Lib.hid (HB6.out.next hb)
        have k0 := below_cell' hb m0
        have k1 := below_cell' hb m1
        clear hb HB6 HOX m0 m1
        have s0 := HB7.out.s0
        have s1 := HB7.out.s1
        have z0 := HB7.out.t 0
        have z1 := HB7.out.t 1
        cases op
        · have HE : Hid ((q1 = 0 ∧ q2 = 0) ∧ e = 22) := Lib.hid (by simpa using HQ.out)
          go_wp2
          refine bodyPost_ret (results_cells_tmp rfl _ _ (w.heap.size + 1) [.int .i64 0, .int .i64 0] _ rfl (HB7.out.two _ _) Tryz.underlying29 rfl id_info2) rfl ⟨by rw [HE.out.1.1, HE.out.1.2, HE.out.2]; rfl, HB7.out.end _ _⟩
        · have HE : Hid ((q1 = p1 ∧ q2 = p2) ∧ e = 0) := Lib.hid (by simpa using HQ.out)
          go_wp2
          refine bodyPost_ret (results_cells_tmp rfl _ _ (w.heap.size + 1) [.int .i64 p1, .int .i64 p2] _ rfl (HB7.out.two _ _) Tryz.underlying29 rfl id_info2) rfl ⟨by rw [HE.out.1.1, HE.out.1.2, HE.out.2]; rfl, HB7.out.end _ _⟩
      · have HE : Hid ((q1 = 0 ∧ q2 = 0) ∧ e = fe) := Lib.hid (by simpa [hfe] using HQ.out)
        have hne : (fe != 0) = true := by simpa using hfe
        clear HO
        obtain ⟨wx, hwx⟩ : ∃ wx, (w4.alloc (.cells #[.int .i64 p1, .int .i64 p2] 29)) = wx := ⟨_, rfl⟩
        have hbx : Below w4.heap.size w4 wx := by rw [← hwx]; exact (Below.refl _ _).alloc (Nat.le_refl _) _
        have HB6 := Lib.hid (HB5.out.next hbx)
        have s0 := HB6.out.s0
        have s1 := HB6.out.s1
        have z0 := HB6.out.t 0
        have z1 := HB6.out.t 1
        clear hbx HB5
        go_wp2_with fail
        try rw [hwx]
        clear hwx
        refine bodyPost_ret (results_cells_tmp rfl _ _ (w.heap.size + 1) [.int .i64 0, .int .i64 0] _ rfl (HB6.out.two _ _) Tryz.underlying29 rfl id_info2) rfl ⟨by rw [HE.out.1.1, HE.out.1.2, HE.out.2]; rfl, HB6.out.end _ _⟩
    · have HE : Hid ((q1 = 0 ∧ q2 = 0) ∧ e = ce) := Lib.hid (by simpa [hce] using HQ.out)
      have hne : (ce != 0) = true := by simpa using hce
      clear HO HF
      obtain ⟨wx, hwx⟩ : ∃ wx, (w3.alloc (.cells #[.int .i64 dm, .string nm] 34)) = wx := ⟨_, rfl⟩
      have hbx : Below w3.heap.size w3 wx := by rw [← hwx]; exact (Below.refl _ _).alloc (Nat.le_refl _) _
      have HB4 := Lib.hid (HB3.out.next hbx)
      have s0 := HB4.out.s0
      have s1 := HB4.out.s1
      have z0 := HB4.out.t 0
      have z1 := HB4.out.t 1
      clear hbx HB3
      go_wp2_with fail
      try rw [hwx]
      clear hwx
      refine bodyPost_ret (results_cells_tmp rfl _ _ (w.heap.size + 1) [.int .i64 0, .int .i64 0] _ rfl (HB4.out.two _ _) Tryz.underlying29 rfl id_info2) rfl ⟨by rw [HE.out.1.1, HE.out.1.2, HE.out.2]; rfl, HB4.out.end _ _⟩
  · have HE : Hid ((q1 = 0 ∧ q2 = 0) ∧ e = re) := Lib.hid (by simpa [hre] using HQ.out)
    have hne : (re != 0) = true := by simpa using hre
    clear HO HF HT
    have s0 := HB2.out.s0
    have s1 := HB2.out.s1
    have z0 := HB2.out.t 0
    have z1 := HB2.out.t 1
    go_wp2
    refine bodyPost_ret (results_cells_tmp rfl _ _ (w.heap.size + 1) [.int .i64 0, .int .i64 0] _ rfl (HB2.out.two _ _) Tryz.underlying29 rfl id_info2) rfl ⟨by rw [HE.out.1.1, HE.out.1.2, HE.out.2]; rfl, HB2.out.end _ _⟩
end Go.Proofs.YtmpphhkbjmjomaaGreatDoor.Hi
