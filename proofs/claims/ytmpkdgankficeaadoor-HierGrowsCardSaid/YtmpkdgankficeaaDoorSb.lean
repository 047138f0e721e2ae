/- Shapes: a method. -/
import Derived.Test.YtmpkdgankficeaaDoorSa
set_option maxRecDepth 100000
set_option maxHeartbeats 2000000
set_option linter.unusedVariables false
set_option linter.unusedSimpArgs false
namespace Go.Proofs.YtmpkdgankficeaaDoor.Pr
open Go.RowKit Bs Hi

def isAbs (f : Int) : Bool := bits .and .i64 f 1024 != 0
/-- Is what stands behind a method's flags fine? -/
def bodyB (m : MethM) : Bool :=
  if isAbs m.flags = true then decide (m.locals = 0) && decide (m.stack = 0) && decide (m.code.length = 0)
  else decide ((wordsR m).1 ≤ m.locals) && decide (m.locals ≤ 40) && decide (0 ≤ m.stack) && decide (m.stack ≤ 40) && codeB m.code m.locals
/-- Is a method sound in a class? -/
def methodB (m : MethM) (iface : Bool) : Bool :=
  decide ((descOf m).err = 0) && Lf.memberB m.name && !(Lf.initB m.name && !(descOf m).void) && Lf.methodFlags m.flags iface (Lf.initB m.name) && bodyB m

theorem method (S : Nat → Prop) (m : MethM) (iface : Bool) (a : Option Addr) (c : Nat) (w : World) (hm : MethIs S w [.string m.name, .string m.desc, .int .i64 m.flags, .int .i64 m.locals, .int .i64 m.stack, .slice a m.code.length c] m) (hS : ∀ k, S k → k < w.heap.size) (he : Lf.Env w) :
    Calls Tryd.prog 55 #[.agg #[.string m.name, .string m.desc, .int .i64 m.flags, .int .i64 m.locals, .int .i64 m.stack, .slice a m.code.length c], .bool iface] w fun e w' => e = .returned (.bool (methodB m iface)) ∧ Below w.heap.size w w' := by
  obtain ⟨cv, hcv, m1, m2, m3, m4, m5, m6⟩ := hm
  obtain rfl : cv = .slice a m.code.length c := by injection hcv with _ h; injection h with _ h; injection h with _ h; injection h with _ h; injection h with _ h; injection h with h _; exact h.symm
  have HD := Lib.hid (ParseDesc_any m.desc.data.toList (w.alloc (.cells #[.string m.name, .string m.desc, .int .i64 m.flags, .int .i64 m.locals, .int .i64 m.stack, .slice a m.code.length c] 57)) (by simpa using m2) (env_alloc he _))
  rw [ba_of] at HD
  have HS := Lib.hid hS
  have H6 := Lib.hid m6
  have HE := Lib.hid he
  have HMEM := Lib.hid (fun w' => Lf.Member m.name w' m1)
  have HFL := Lib.hid (fun w' => Lf.CheckMethod m.flags iface m.name w')
  have HW := Lib.hid (fun w' he' => Words m (.slice a m.code.length c) w' m2 he')
  have HR : Hid (methodB m iface = (decide ((descOf m).err = 0) && Lf.memberB m.name && !(Lf.initB m.name && !(descOf m).void) && Lf.methodFlags m.flags iface (Lf.initB m.name) && bodyB m)) := Lib.hid rfl
  have HBO : Hid (bodyB m = if isAbs m.flags = true then decide (m.locals = 0) && decide (m.stack = 0) && decide (m.code.length = 0) else decide ((wordsR m).1 ≤ m.locals) && decide (m.locals ≤ 40) && decide (0 ≤ m.stack) && decide (m.stack ≤ 40) && codeB m.code m.locals) := Lib.hid rfl
  unfold descOf at HR
  clear m1 m2 m3 m4 m5 m6 hS he hcv
  obtain ⟨R, hR⟩ : ∃ R, methodB m iface = R := ⟨_, rfl⟩
  rw [hR] at HR ⊢
  clear hR
  generalize descM m.desc.data.toList = d at HD HR
  generalize Lf.memberB m.name = mb at HMEM HR
  generalize Lf.methodFlags m.flags iface (Lf.initB m.name) = mf at HFL HR
  obtain ⟨ib, hib⟩ : ∃ ib, Lf.initB m.name = ib := ⟨_, rfl⟩
  rw [hib] at HR
  unfold Lf.initB at hib
  generalize bodyB m = bo at HR HBO
  obtain ⟨dn, dv, dd, dr, de⟩ := d
  have hce : ∀ j : Nat, (w.alloc (.cells #[.string m.name, .string m.desc, .int .i64 m.flags, .int .i64 m.locals, .int .i64 m.stack, .slice a m.code.length c] 57)).cell? ⟨w.heap.size, j, none⟩ = (#[Value.string m.name, .string m.desc, .int .i64 m.flags, .int .i64 m.locals, .int .i64 m.stack, .slice a m.code.length c])[j]? := fun j => World.cell?_alloc_new ..
  go_enter Tryd.func55, Tryd.ntmps55
  go_wp2_with fail
  refine HD.out.mono ?_
  rintro e w1 ⟨⟨da, dc, rfl⟩, hb1⟩
  have c0 : w1.cell? ⟨w.heap.size, 0, none⟩ = some (.string m.name) := below_cell' hb1 (hce 0)
  have c1 : w1.cell? ⟨w.heap.size, 1, none⟩ = some (.string m.desc) := below_cell' hb1 (hce 1)
  have c2 : w1.cell? ⟨w.heap.size, 2, none⟩ = some (.int .i64 m.flags) := below_cell' hb1 (hce 2)
  have c3 : w1.cell? ⟨w.heap.size, 3, none⟩ = some (.int .i64 m.locals) := below_cell' hb1 (hce 3)
  have c4 : w1.cell? ⟨w.heap.size, 4, none⟩ = some (.int .i64 m.stack) := below_cell' hb1 (hce 4)
  have c5 : w1.cell? ⟨w.heap.size, 5, none⟩ = some (.slice a m.code.length c) := below_cell' hb1 (hce 5)
  have HB1 : Hid (Below w.heap.size w w1) := Lib.hid (((Below.refl _ _).alloc (Nat.le_refl _) _).trans (hb1.mono (by simp)))
  have hz1 : w.heap.size < w1.heap.size := World.block_lt_of_cell? _ _ c0
  clear hb1 hce HD
  have HBX : Hid (∀ o, Below w.heap.size w (w1.alloc o)) := Lib.hid fun o => HB1.out.alloc HB1.out.size o
  by_cases h0 : de = 0
  · subst h0
    cases mb
    · have G : Hid (R = false) := Lib.hid (by rw [HR.out]; rfl)
      go_wp2_with fail
      refine (HMEM.out _).mono ?_
      rintro e _ ⟨rfl, rfl⟩
      go_wp2
      go_ret
      exact ⟨by rw [G.out]; rfl, HBX.out _⟩
    · go_wp2_with fail
      refine (HMEM.out _).mono ?_
      rintro e _ ⟨rfl, rfl⟩
      have hsp : (ib = true ∧ dv = false) ∨ (ib = false) ∨ (ib = true ∧ dv = true) := by cases ib <;> cases dv <;> simp
      rcases hsp with ⟨rfl, rfl⟩ | rfl | ⟨rfl, rfl⟩
      · have G : Hid (R = false) := Lib.hid (by rw [HR.out]; rfl)
        go_wp2
        go_ret
        exact ⟨by rw [G.out]; rfl, HBX.out _⟩
      all_goals
        go_wp2_with fail
        refine (HFL.out _).mono ?_
        rintro e _ ⟨rfl, rfl⟩
        cases mf
        · have G : Hid (R = false) := Lib.hid (by rw [HR.out]; simp)
          go_wp2
          go_ret
          exact ⟨by rw [G.out]; rfl, HBX.out _⟩
        · have G : Hid (R = bo) := Lib.hid (by rw [HR.out]; simp)
          cases hab : isAbs m.flags
          · have GB := Lib.hid (HBO.out.trans (if_neg (by rw [hab]; simp)))
            unfold isAbs at hab
            generalize wordsR m = wr at HW GB
            obtain ⟨wn, wx⟩ := wr
            obtain ⟨y1, hy1⟩ : ∃ y, decide (wn ≤ m.locals) = y := ⟨_, rfl⟩
            obtain ⟨y2, hy2⟩ : ∃ y, decide (m.locals ≤ 40) = y := ⟨_, rfl⟩
            obtain ⟨y3, hy3⟩ : ∃ y, decide (0 ≤ m.stack) = y := ⟨_, rfl⟩
            obtain ⟨y4, hy4⟩ : ∃ y, decide (m.stack ≤ 40) = y := ⟨_, rfl⟩
            dsimp only at GB
            rw [hy1, hy2, hy3, hy4] at GB
            have GG : Hid (R = (y1 && y2 && y3 && y4 && codeB m.code m.locals)) := Lib.hid (G.out.trans GB.out)
            clear GB
            have C3 := Lib.hid (fun o => alloc_old (x := o) c3)
            have C4 := Lib.hid (fun o => alloc_old (x := o) c4)
            have C5 := Lib.hid (fun o => alloc_old (x := o) c5)
            go_wp2_with fail
            refine (HW.out _ (HE.out.below (HBX.out _))).mono ?_
            rintro e w2 ⟨rfl, hb2⟩
            have q3 := below_cell' hb2 (C3.out _)
            have q4 := below_cell' hb2 (C4.out _)
            have q5 := below_cell' hb2 (C5.out _)
            have HB2 := Lib.hid ((HBX.out _).trans (hb2.mono (HBX.out _).size))
            have HCA := Lib.hid (CheckAll S a c m.code m.locals w2 (H6.out.alike (Alike.of_below HB2.out HS.out)) (fun k hk => Nat.lt_of_lt_of_le (HS.out k hk) HB2.out.size) (HE.out.below HB2.out))
            generalize codeB m.code m.locals = cb at GG HCA
            clear hb2 c0 c1 c2 c3 c4 c5
            cases y1
            · go_wp2
              go_ret
              exact ⟨by rw [GG.out]; rfl, HB2.out⟩
            cases y2
            · go_wp2
              go_ret
              exact ⟨by rw [GG.out]; rfl, HB2.out⟩
            cases y3
            · go_wp2
              go_ret
              exact ⟨by rw [GG.out]; rfl, HB2.out⟩
            cases y4
            · go_wp2
              go_ret
              exact ⟨by rw [GG.out]; rfl, HB2.out⟩
            go_wp2_with fail
            refine HCA.out.mono ?_
            rintro e w3 ⟨rfl, hb3⟩
            have HB3 := Lib.hid (HB2.out.trans (hb3.mono HB2.out.size))
            clear hb3
            unfold formE
            cases cb
            all_goals
              go_wp2
              go_ret
              exact ⟨by rw [GG.out]; rfl, HB3.out⟩
          · have GB := Lib.hid (HBO.out.trans (if_pos hab))
            unfold isAbs at hab
            obtain ⟨y1, hy1⟩ : ∃ y, decide (m.locals = 0) = y := ⟨_, rfl⟩
            obtain ⟨y2, hy2⟩ : ∃ y, decide (m.stack = 0) = y := ⟨_, rfl⟩
            obtain ⟨y3, hy3⟩ : ∃ y, decide (m.code.length = 0) = y := ⟨_, rfl⟩
            rw [hy1, hy2, hy3] at GB
            have e1 : (m.locals == 0) = y1 := by rw [← hy1]; rfl
            have e2 : (m.stack == 0) = y2 := by rw [← hy2]; rfl
            have e3 : (((m.code.length : Nat) : Int) == 0) = y3 := by
              rw [← hy3, Bool.eq_iff_iff]
              simp
            clear hy1 hy2 hy3
            have GG : Hid (R = (y1 && y2 && y3)) := Lib.hid (G.out.trans GB.out)
            clear GB
            cases y1 <;> cases y2 <;> cases y3
            all_goals
              go_wp2
              go_ret
              exact ⟨by rw [GG.out]; rfl, HBX.out _⟩
  · have e1 : (de != 0) = true := by simpa using h0
    have G : Hid (R = false) := Lib.hid (by rw [HR.out]; simp [h0])
    go_wp2
    go_ret
    exact ⟨by rw [G.out]; rfl, HBX.out _⟩
end Go.Proofs.YtmpkdgankficeaaDoor.Pr
