/- Resolving in general: what each step answers. -/
import Derived.Test.YtmpphhkbjmjomaaGreatDoorRo
set_option maxRecDepth 100000
set_option maxHeartbeats 1000000
set_option linter.unusedVariables false
set_option linter.unusedSimpArgs false
namespace Go.Proofs.YtmpphhkbjmjomaaGreatDoor.Hi
open Go.RowKit Bs

def zeroT : TyM := ⟨0, ⟨#[]⟩⟩

/-- resolve.Class, whatever the steps answer. -/
theorem RClass_any {bw : Nat} {w : World} {dd : Int} {s : ByteArray} (t : TyM) (pe le : Int) (op : Bool)
    (HC0 : ∀ wr, Below w.heap.size w wr → Calls Tryz.prog 20 #[.pointer (some ⟨bw, 0, none⟩), .int .i64 dd] wr fun r w' => ∃ (v0 v1 : ByteArray) (ia ma : Option Addr) (il ic ml mc : Nat) (f l : Int), r = .returned (.tuple #[.agg #[.string v0, .string v1, .slice ia il ic, .int .i64 f, .int .i64 l, .slice ma ml mc], .int .i64 0]) ∧ Below wr.heap.size wr w')
    (HP0 : ∀ wr, Below w.heap.size w wr → Calls Tryz.prog 23 #[.string s] wr fun r w' => r = .returned (.tuple #[.agg #[.int .i64 t.dims, .string t.name], .int .i64 pe]) ∧ Below wr.heap.size wr w')
    (HL0 : pe = 0 → ∀ wr, Below w.heap.size w wr → Calls Tryz.prog 24 #[.pointer (some ⟨bw, 0, none⟩), .agg #[.int .i64 t.dims, .string t.name]] wr fun r w' => r = .returned (.int .i64 le) ∧ Below wr.heap.size wr w')
    (HT0 : pe = 0 → le = 0 → ∀ wr, Below w.heap.size w wr → Calls Tryz.prog 16 #[.pointer (some ⟨bw, 0, none⟩), .int .i64 dd, .agg #[.int .i64 t.dims, .string t.name]] wr fun r w' => r = .returned (.tuple #[.bool op, .int .i64 0]) ∧ Below wr.heap.size wr w')
    (u : TyM) (e : Int) (hu : (u, e) = if pe ≠ 0 then (zeroT, 4) else if le ≠ 0 then (zeroT, le) else if op = true then (t, 0) else (zeroT, 22)) :
    Calls Tryz.prog 9 #[.pointer (some ⟨bw, 0, none⟩), .int .i64 dd, .string s] w fun r w' => r = .returned (.tuple #[.agg #[.int .i64 u.dims, .string u.name], .int .i64 e]) ∧ Below w.heap.size w w' := by
  have HS := Lib.hid (TyAt.start w)
  have HC := Lib.hid (HC0 _ HS.out.bel)
  have HP := Lib.hid HP0
  have HL := Lib.hid HL0
  have HT := Lib.hid HT0
  have HU := Lib.hid hu
  clear HC0 HP0 HL0 HT0 hu
  obtain ⟨dm, nm⟩ := t
  obtain ⟨ud, un⟩ := u
  simp only at HP HL HT ⊢
  go_enter Tryz.func9, Tryz.ntmps9
  go_wp2_with fail
  refine HC.out.mono ?_
  rintro _ w1 ⟨v0, v1, ia, ma, il, ic, ml, mc, f, l, rfl, hb⟩
  have HB1 := Lib.hid ((HS.out.next hb).next ((Below.refl w1.heap.size w1).alloc (Nat.le_refl _) (.cells #[.string v0, .string v1, .slice ia il ic, .int .i64 f, .int .i64 l, .slice ma ml mc] 54)))
  clear hb HC HS
  go_wp2_with fail
  refine (HP.out _ HB1.out.bel).mono ?_
  rintro _ w2 ⟨rfl, hb⟩
  obtain ⟨wx, hwx⟩ : ∃ wx, (w2.alloc (.cells #[.int .i64 dm, .string nm] 34)) = wx := ⟨_, rfl⟩
  have hbx : Below w2.heap.size w2 wx := by rw [← hwx]; exact (Below.refl _ _).alloc (Nat.le_refl _) _
  have HB2 := Lib.hid ((HB1.out.next hb).next hbx)
  have m0 : wx.cell? ⟨w2.heap.size, 0, none⟩ = some (.int .i64 dm) := by rw [← hwx]; exact alloc_at rfl _ _ rfl
  have m1 : wx.cell? ⟨w2.heap.size, 1, none⟩ = some (.string nm) := by rw [← hwx]; exact alloc_at rfl _ _ rfl
  clear hb hbx HP HB1
  by_cases hpe : pe = 0
  · subst hpe
    have HLX := Lib.hid (HL.out (by trivial) wx HB2.out.bel)
    go_wp2_with fail
    try rw [hwx]
    clear hwx HL
    refine HLX.out.mono ?_
    rintro _ w3 ⟨rfl, hb⟩
    have HB3 := Lib.hid (HB2.out.next hb)
    have p0 := below_cell' hb m0
    have p1 := below_cell' hb m1
    clear hb HLX HB2 m0 m1
    by_cases hle : le = 0
    · subst hle
      have HTX := Lib.hid (HT.out (by trivial) (by trivial) w3 HB3.out.bel)
      go_wp2_with fail
      refine HTX.out.mono ?_
      rintro _ w4 ⟨rfl, hb⟩
      have HB4 := Lib.hid (HB3.out.next hb)
      have m0 := below_cell' hb p0
      have m1 := below_cell' hb p1
      clear hb HT HTX HB3 p0 p1
      have s0 := HB4.out.s0
      have s1 := HB4.out.s1
      have t0 := HB4.out.t 0
      have t1 := HB4.out.t 1
      cases op
      · have HE : Hid (ud = 0 ∧ un = ⟨#[]⟩ ∧ e = 22) := Lib.hid (by
          have := HU.out
          simp [zeroT] at this
          exact ⟨this.1.1, this.1.2, this.2⟩)
        go_wp2
        refine bodyPost_ret (results_cells_tmp rfl _ _ w.heap.size [.int .i64 0, .string ⟨#[]⟩] _ rfl (HB4.out.two _ _) Tryz.underlying34 rfl type_info2) rfl ⟨by rw [HE.out.1, HE.out.2.1, HE.out.2.2]; rfl, HB4.out.end _ _⟩
      · have HE : Hid (ud = dm ∧ un = nm ∧ e = 0) := Lib.hid (by
          have := HU.out
          simp at this
          exact ⟨this.1.1, this.1.2, this.2⟩)
        go_wp2
        refine bodyPost_ret (results_cells_tmp rfl _ _ w.heap.size [.int .i64 dm, .string nm] _ rfl (HB4.out.two _ _) Tryz.underlying34 rfl type_info2) rfl ⟨by rw [HE.out.1, HE.out.2.1, HE.out.2.2]; rfl, HB4.out.end _ _⟩
    · have hle1 : (le != 0) = true := by simpa using hle
      have HE : Hid (ud = 0 ∧ un = ⟨#[]⟩ ∧ e = le) := Lib.hid (by
        have := HU.out
        simp [zeroT, hle] at this
        exact ⟨this.1.1, this.1.2, this.2⟩)
      have s0 := HB3.out.s0
      have s1 := HB3.out.s1
      have t0 := HB3.out.t 0
      have t1 := HB3.out.t 1
      clear HT
      go_wp2
      refine bodyPost_ret (results_cells_tmp rfl _ _ w.heap.size [.int .i64 0, .string ⟨#[]⟩] _ rfl (HB3.out.two _ _) Tryz.underlying34 rfl type_info2) rfl ⟨by rw [HE.out.1, HE.out.2.1, HE.out.2.2]; rfl, HB3.out.end _ _⟩
  · have hpe1 : (pe != 0) = true := by simpa using hpe
    have HE : Hid (ud = 0 ∧ un = ⟨#[]⟩ ∧ e = 4) := Lib.hid (by
      have := HU.out
      simp [zeroT, hpe] at this
      exact ⟨this.1.1, this.1.2, this.2⟩)
    have s0 := HB2.out.s0
    have s1 := HB2.out.s1
    have t0 := HB2.out.t 0
    have t1 := HB2.out.t 1
    clear HL HT
    go_wp2_with fail
    try rw [hwx]
    clear hwx
    refine bodyPost_ret (results_cells_tmp rfl _ _ w.heap.size [.int .i64 0, .string ⟨#[]⟩] _ rfl (HB2.out.two _ _) Tryz.underlying34 rfl type_info2) rfl ⟨by rw [HE.out.1, HE.out.2.1, HE.out.2.2]; rfl, HB2.out.end _ _⟩
end Go.Proofs.YtmpphhkbjmjomaaGreatDoor.Hi
