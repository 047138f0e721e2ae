/- Shapes: words. -/
import Derived.Test.YtipinmbpdgjalaaGreatDoorMR
set_option maxRecDepth 100000
set_option maxHeartbeats 2000000
set_option linter.unusedVariables false
set_option linter.unusedSimpArgs false
namespace Go.Proofs.YtipinmbpdgjalaaGreatDoor.Pr
open Go.RowKit Bs Hi

def descOf (m : MethM) : DescR := descM m.desc.data.toList
def noStatic (f : Int) : Bool := bits .and .i64 f 8 == 0
/-- How many locals the arguments take. -/
def wordsR (m : MethM) : Int × Int := if (descOf m).err = 0 then (if noStatic m.flags = true then ((descOf m).n : Int) + 1 else (descOf m).n, 0) else (0, 1)

theorem argsM_n : ∀ (f : Nat) (l : List UInt8) (n : Nat) (wd : Bool), (argsM f l n wd).n ≤ n + f
  | 0, l, n, wd => Nat.le_refl _
  | f + 1, l, n, wd => by
    unfold argsM
    split
    · simp
    · split
      · have := argsM_n f (tail l).rest (n + 1) (wd || decide (255 < (brackets l : Int))); omega
      · simp
theorem descEnd_n (ok : Bool) (l : List UInt8) (n : Nat) (wd v : Bool) (rd : Int) (rn : List UInt8) : (descEnd ok l n wd v rd rn).n ≤ 20 := by
  unfold descEnd
  split
  · simp
  · split
    · simp
    · rename_i h
      simp at h ⊢
      omega
theorem descM_n (l : List UInt8) : (descM l).n ≤ 20 := by
  unfold descM
  split
  · simp
  · split
    · dsimp only
      split
      · split
        · exact descEnd_n ..
        · exact descEnd_n ..
      · exact descEnd_n ..
    · exact descEnd_n ..

theorem Words (m : MethM) (cv : Value) (w : World) (h2 : m.desc.size ≤ maxLen) (he : Lf.Env w) :
    Calls Tryz.prog 106 #[.agg #[.string m.name, .string m.desc, .int .i64 m.flags, .int .i64 m.locals, .int .i64 m.stack, cv]] w fun e w' => e = .returned (.tuple #[.int .i64 (wordsR m).1, .int .i64 (wordsR m).2]) ∧ Below w.heap.size w w' := by
  have HA := Lib.hid (Args m.desc.data.toList (w.alloc (.cells #[.string m.name, .string m.desc, .int .i64 m.flags, .int .i64 m.locals, .int .i64 m.stack, cv] 55)) (by simpa using h2) (env_alloc he _))
  rw [ba_of] at HA
  have hn := descM_n m.desc.data.toList
  have HF : Hid (wordsR m = if (descOf m).err = 0 then (if noStatic m.flags = true then ((descOf m).n : Int) + 1 else (descOf m).n, 0) else (0, 1)) := Lib.hid rfl
  unfold descOf at HF
  generalize descM m.desc.data.toList = d at HA HF hn
  obtain ⟨dn, dv, dd, dr, de⟩ := d
  have ce : ∀ j : Nat, (w.alloc (.cells #[.string m.name, .string m.desc, .int .i64 m.flags, .int .i64 m.locals, .int .i64 m.stack, cv] 55)).cell? ⟨w.heap.size, j, none⟩ = (#[Value.string m.name, .string m.desc, .int .i64 m.flags, .int .i64 m.locals, .int .i64 m.stack, cv])[j]? := fun j => World.cell?_alloc_new ..
  have HC2 := Lib.hid (ce 2)
  clear ce h2 he
  dsimp only at hn HF
  by_cases h0 : de = 0
  · subst h0
    cases hs : noStatic m.flags
    all_goals
      have hs' := hs
      unfold noStatic at hs'
      have G := Lib.hid (HF.out.trans (if_pos rfl))
      rw [hs] at G
      clear hs
      go_enter Tryz.func106, Tryz.ntmps106
      go_wp2_with fail
      refine HA.out.mono ?_
      rintro e w1 ⟨rfl, hb1⟩
      have c2 : w1.cell? ⟨w.heap.size, 2, none⟩ = some (.int .i64 m.flags) := below_cell' hb1 HC2.out
      have HB1 : Hid (Below w.heap.size w w1) := Lib.hid (((Below.refl _ _).alloc (Nat.le_refl _) _).trans (hb1.mono (by simp)))
      clear hb1
      go_wp2
      go_ret2
      exact ⟨by rw [G.out]; rfl, HB1.out⟩
  · have e1 : (de != 0) = true := by simpa using h0
    have G := Lib.hid (HF.out.trans (if_neg h0))
    go_enter Tryz.func106, Tryz.ntmps106
    go_wp2_with fail
    refine HA.out.mono ?_
    rintro e w1 ⟨rfl, hb1⟩
    have HB1 : Hid (Below w.heap.size w w1) := Lib.hid (((Below.refl _ _).alloc (Nat.le_refl _) _).trans (hb1.mono (by simp)))
    clear hb1
    go_wp2
    go_ret2
    exact ⟨by rw [G.out]; rfl, HB1.out⟩
end Go.Proofs.YtipinmbpdgjalaaGreatDoor.Pr
/- Shapes: a method. -/
set_option maxRecDepth 100000
set_option maxHeartbeats 2000000
set_option linter.unusedVariables false
set_option linter.unusedSimpArgs false
namespace Go.Proofs.YtipinmbpdgjalaaGreatDoor.Pr
open Go.RowKit Bs Hi

def isAbs (f : Int) : Bool := bits .and .i64 f 1024 != 0
/-- Is what stands behind a method's flags fine? -/
def bodyB (m : MethM) : Bool :=
  if isAbs m.flags = true then decide (m.locals = 0) && decide (m.stack = 0) && decide (m.code.length = 0)
  else decide ((wordsR m).1 ≤ m.locals) && decide (m.locals ≤ 40) && decide (0 ≤ m.stack) && decide (m.stack ≤ 40) && codeB m.code m.locals
/-- Is a method sound in a class? -/
def methodB (m : MethM) (iface : Bool) : Bool :=
  decide ((descOf m).err = 0) && Lf.memberB m.name && !(Lf.initB m.name && !(descOf m).void) && Lf.methodFlags m.flags iface (Lf.initB m.name) && bodyB m

theorem method (S : Nat → Prop) (m : MethM) (iface : Bool) (a : Option Addr) (c : Nat) (w : World) (hm : MethIs S w [.string m.name, .string m.desc, .int .i64 m.flags, .int .i64 m.locals, .int .i64 m.stack, .slice a m.code.length c] m) (hS : ∀ k, S k → k < w.heap.size) (he : Lf.Env w) :
    Calls Tryz.prog 86 #[.agg #[.string m.name, .string m.desc, .int .i64 m.flags, .int .i64 m.locals, .int .i64 m.stack, .slice a m.code.length c], .bool iface] w fun e w' => e = .returned (.bool (methodB m iface)) ∧ Below w.heap.size w w' := by
  obtain ⟨cv, hcv, m1, m2, m3, m4, m5, m6⟩ := hm
  obtain rfl : cv = .slice a m.code.length c := by injection hcv with _ h; injection h with _ h; injection h with _ h; injection h with _ h; injection h with _ h; injection h with h _; exact h.symm
  have HD := Lib.hid (ParseDesc_any m.desc.data.toList (w.alloc (.cells #[.string m.name, .string m.desc, .int .i64 m.flags, .int .i64 m.locals, .int .i64 m.stack, .slice a m.code.length c] 55)) (by simpa using m2) (env_alloc he _))
  rw [ba_of] at HD
  have HS := Lib.hid hS
  have H6 := Lib.hid m6
  have HE := Lib.hid he
  have HMEM := Lib.hid (fun w' => Lf.Member m.name w' m1)
  have HFL := Lib.hid (fun w' => Lf.CheckMethod m.flags iface m.name w')
  have HW := Lib.hid (fun w' he' => Words m (.slice a m.code.length c) w' m2 he')
  have HR : Hid (methodB m iface = (decide ((descOf m).err = 0) && Lf.memberB m.name && !(Lf.initB m.name && !(descOf m).void) && Lf.methodFlags m.flags iface (Lf.initB m.name) && bodyB m)) := Lib.hid rfl
  have HBO : Hid (bodyB m = if isAbs m.flags = true then decide (m.locals = 0) && decide (m.stack = 0) && decide (m.code.length = 0) else decide ((wordsR m).1 ≤ m.locals) && decide (m.locals ≤ 40) && decide (0 ≤ m.stack) && decide (m.stack ≤ 40) && codeB m.code m.locals) := Lib.hid rfl
  unfold descOf at HR
  clear m1 m2 m3 m4 m5 m6 hS he hcv
  obtain ⟨R, hR⟩ : ∃ R, methodB m iface = R := ⟨_, rfl⟩
  rw [hR] at HR ⊢
  clear hR
  generalize descM m.desc.data.toList = d at HD HR
  generalize Lf.memberB m.name = mb at HMEM HR
  generalize Lf.methodFlags m.flags iface (Lf.initB m.name) = mf at HFL HR
  obtain ⟨ib, hib⟩ : ∃ ib, Lf.initB m.name = ib := ⟨_, rfl⟩
  rw [hib] at HR
  unfold Lf.initB at hib
  generalize bodyB m = bo at HR HBO
  obtain ⟨dn, dv, dd, dr, de⟩ := d
  have hce : ∀ j : Nat, (w.alloc (.cells #[.string m.name, .string m.desc, .int .i64 m.flags, .int .i64 m.locals, .int .i64 m.stack, .slice a m.code.length c] 55)).cell? ⟨w.heap.size, j, none⟩ = (#[Value.string m.name, .string m.desc, .int .i64 m.flags, .int .i64 m.locals, .int .i64 m.stack, .slice a m.code.length c])[j]? := fun j => World.cell?_alloc_new ..
  go_enter Tryz.func86, Tryz.ntmps86
  go_wp2_with fail
  refine HD.out.mono ?_
  rintro e w1 ⟨⟨da, dc, rfl⟩, hb1⟩
  have c0 : w1.cell? ⟨w.heap.size, 0, none⟩ = some (.string m.name) := below_cell' hb1 (hce 0)
  have c1 : w1.cell? ⟨w.heap.size, 1, none⟩ = some (.string m.desc) := below_cell' hb1 (hce 1)
  have c2 : w1.cell? ⟨w.heap.size, 2, none⟩ = some (.int .i64 m.flags) := below_cell' hb1 (hce 2)
  have c3 : w1.cell? ⟨w.heap.size, 3, none⟩ = some (.int .i64 m.locals) := below_cell' hb1 (hce 3)
  have c4 : w1.cell? ⟨w.heap.size, 4, none⟩ = some (.int .i64 m.stack) := below_cell' hb1 (hce 4)
  have c5 : w1.cell? ⟨w.heap.size, 5, none⟩ = some (.slice a m.code.length c) := below_cell' hb1 (hce 5)
  have HB1 : Hid (Below w.heap.size w w1) := Lib.hid (((Below.refl _ _).alloc (Nat.le_refl _) _).trans (hb1.mono (by simp)))
  have hz1 : w.heap.size < w1.heap.size := World.block_lt_of_cell? _ _ c0
  clear hb1 hce HD
  have HBX : Hid (∀ o, Below w.heap.size w (w1.alloc o)) := Lib.hid fun o => HB1.out.alloc HB1.out.size o
  by_cases h0 : de = 0
  · subst h0
    cases mb
    · have G : Hid (R = false) := Lib.hid (by rw [HR.out]; rfl)
      go_wp2_with fail
      refine (HMEM.out _).mono ?_
      rintro e _ ⟨rfl, rfl⟩
      go_wp2
      go_ret
      exact ⟨by rw [G.out]; rfl, HBX.out _⟩
    · go_wp2_with fail
      refine (HMEM.out _).mono ?_
      rintro e _ ⟨rfl, rfl⟩
      have hsp : (ib = true ∧ dv = false) ∨ (ib = false) ∨ (ib = true ∧ dv = true) := by cases ib <;> cases dv <;> simp
      rcases hsp with ⟨rfl, rfl⟩ | rfl | ⟨rfl, rfl⟩
      · have G : Hid (R = false) := Lib.hid (by rw [HR.out]; rfl)
        go_wp2
        go_ret
        exact ⟨by rw [G.out]; rfl, HBX.out _⟩
      all_goals
        go_wp2_with fail
        refine (HFL.out _).mono ?_
        rintro e _ ⟨rfl, rfl⟩
        cases mf
        · have G : Hid (R = false) := Lib.hid (by rw [HR.out]; simp)
          go_wp2
          go_ret
          exact ⟨by rw [G.out]; rfl, HBX.out _⟩
        · have G : Hid (R = bo) := Lib.hid (by rw [HR.out]; simp)
          cases hab : isAbs m.flags
          · have GB := Lib.hid (HBO.out.trans (if_neg (by rw [hab]; simp)))
            unfold isAbs at hab
            generalize wordsR m = wr at HW GB
            obtain ⟨wn, wx⟩ := wr
            obtain ⟨y1, hy1⟩ : ∃ y, decide (wn ≤ m.locals) = y := ⟨_, rfl⟩
            obtain ⟨y2, hy2⟩ : ∃ y, decide (m.locals ≤ 40) = y := ⟨_, rfl⟩
            obtain ⟨y3, hy3⟩ : ∃ y, decide (0 ≤ m.stack) = y := ⟨_, rfl⟩
            obtain ⟨y4, hy4⟩ : ∃ y, decide (m.stack ≤ 40) = y := ⟨_, rfl⟩
            dsimp only at GB
            rw [hy1, hy2, hy3, hy4] at GB
            have GG : Hid (R = (y1 && y2 && y3 && y4 && codeB m.code m.locals)) := Lib.hid (G.out.trans GB.out)
            clear GB
            have C3 := Lib.hid (fun o => alloc_old (x := o) c3)
            have C4 := Lib.hid (fun o => alloc_old (x := o) c4)
            have C5 := Lib.hid (fun o => alloc_old (x := o) c5)
            go_wp2_with fail
            refine (HW.out _ (HE.out.below (HBX.out _))).mono ?_
            rintro e w2 ⟨rfl, hb2⟩
            have q3 := below_cell' hb2 (C3.out _)
            have q4 := below_cell' hb2 (C4.out _)
            have q5 := below_cell' hb2 (C5.out _)
            have HB2 := Lib.hid ((HBX.out _).trans (hb2.mono (HBX.out _).size))
            have HCA := Lib.hid (CheckAll S a c m.code m.locals w2 (H6.out.alike (Alike.of_below HB2.out HS.out)) (fun k hk => Nat.lt_of_lt_of_le (HS.out k hk) HB2.out.size) (HE.out.below HB2.out))
            generalize codeB m.code m.locals = cb at GG HCA
            clear hb2 c0 c1 c2 c3 c4 c5
            cases y1
            · go_wp2
              go_ret
              exact ⟨by rw [GG.out]; rfl, HB2.out⟩
            cases y2
            · go_wp2
              go_ret
              exact ⟨by rw [GG.out]; rfl, HB2.out⟩
            cases y3
            · go_wp2
              go_ret
              exact ⟨by rw [GG.out]; rfl, HB2.out⟩
            cases y4
            · go_wp2
              go_ret
              exact ⟨by rw [GG.out]; rfl, HB2.out⟩
            go_wp2_with fail
            refine HCA.out.mono ?_
            rintro e w3 ⟨rfl, hb3⟩
            have HB3 := Lib.hid (HB2.out.trans (hb3.mono HB2.out.size))
            clear hb3
            unfold formE
            cases cb
            all_goals
              go_wp2
              go_ret
              exact ⟨by rw [GG.out]; rfl, HB3.out⟩
          · have GB := Lib.hid (HBO.out.trans (if_pos hab))
            unfold isAbs at hab
            obtain ⟨y1, hy1⟩ : ∃ y, decide (m.locals = 0) = y := ⟨_, rfl⟩
            obtain ⟨y2, hy2⟩ : ∃ y, decide (m.stack = 0) = y := ⟨_, rfl⟩
            obtain ⟨y3, hy3⟩ : ∃ y, decide (m.code.length = 0) = y := ⟨_, rfl⟩
            rw [hy1, hy2, hy3] at GB
            have e1 : (m.locals == 0) = y1 := by rw [← hy1]; rfl
            have e2 : (m.stack == 0) = y2 := by rw [← hy2]; rfl
            have e3 : (((m.code.length : Nat) : Int) == 0) = y3 := by
              rw [← hy3, Bool.eq_iff_iff]
              simp
            clear hy1 hy2 hy3
            have GG : Hid (R = (y1 && y2 && y3)) := Lib.hid (G.out.trans GB.out)
            clear GB
            cases y1 <;> cases y2 <;> cases y3
            all_goals
              go_wp2
              go_ret
              exact ⟨by rw [GG.out]; rfl, HBX.out _⟩
  · have e1 : (de != 0) = true := by simpa using h0
    have G : Hid (R = false) := Lib.hid (by rw [HR.out]; simp [h0])
    go_wp2
    go_ret
    exact ⟨by rw [G.out]; rfl, HBX.out _⟩
end Go.Proofs.YtipinmbpdgjalaaGreatDoor.Pr
/- Shapes: what stands ahead of the methods. -/
set_option maxRecDepth 100000
set_option maxHeartbeats 4000000
set_option linter.unusedVariables false
set_option linter.unusedSimpArgs false
namespace Go.Proofs.YtipinmbpdgjalaaGreatDoor.Pr
open Go.RowKit Bs Hi

/-- Is an interface's name sound at its place? -/
def ifcB (name : ByteArray) (xs : List ByteArray) (k : Nat) : Bool := match xs[k]? with
  | some s => Lf.validB s.data.toList && !(s.toList == name.toList) && !(Lib.containsS (xs.take k) s)
  | none => true
def headB (c : ClsM) : Bool := Lf.validB c.name.data.toList && Lf.validB c.super.data.toList && !(c.name.toList == c.super.toList) && Lf.classFlags c.flags
/-- Is what stands ahead of the methods sound? -/
def headerB (c : ClsM) : Bool := headB c && ((List.range c.ifaces.length).all fun k => ifcB c.name c.ifaces k) && (decide (c.ifaces.length ≤ 20) && decide (0 ≤ c.loader) && decide (c.loader ≤ 9))

theorem header (S : Nat → Prop) (c : ClsM) (a : Option Addr) (cap : Nat) (mv : Value) (w : World) (h1 : c.name.size ≤ maxLen) (h2 : c.super.size ≤ maxLen) (hi : StrSl S w (.slice a c.ifaces.length cap) c.ifaces) (hS : ∀ k, S k → k < w.heap.size) (he : Lf.Env w) :
    Calls Tryz.prog 85 #[.agg #[.string c.name, .string c.super, .slice a c.ifaces.length cap, .int .i64 c.flags, .int .i64 c.loader, mv]] w fun e w' => e = .returned (.bool (headerB c)) ∧ Below w.heap.size w w' := by
  have HE := Lib.hid he
  have HI := Lib.hid hi
  have HS := Lib.hid hS
  have HV1 := Lib.hid (fun w' he' => Lf.Valid c.name w' h1 he')
  have HV2 := Lib.hid (fun w' he' => Lf.Valid c.super w' h2 he')
  have HCC := Lib.hid (fun w' => Lf.CheckClass c.flags w')
  obtain ⟨R, hR⟩ : ∃ R, headerB c = R := ⟨_, rfl⟩
  have HR : Hid (headB c = false → R = false) := Lib.hid (fun h => by rw [← hR]; unfold headerB; rw [h]; rfl)
  have HH : Hid (headB c = (Lf.validB c.name.data.toList && Lf.validB c.super.data.toList && !(c.name.toList == c.super.toList) && Lf.classFlags c.flags)) := Lib.hid rfl
  have HR2 := Lib.hid hR
  rw [hR]
  clear hi hS he h1 h2 hR
  generalize Lf.validB c.name.data.toList = v1 at HV1 HH
  generalize Lf.validB c.super.data.toList = v2 at HV2 HH
  generalize Lf.classFlags c.flags = v4 at HCC HH
  obtain ⟨v3, e3⟩ : ∃ b, (c.name.toList == c.super.toList) = b := ⟨_, rfl⟩
  rw [e3] at HH
  have hce : ∀ j : Nat, (w.alloc (.cells #[.string c.name, .string c.super, .slice a c.ifaces.length cap, .int .i64 c.flags, .int .i64 c.loader, mv] 26)).cell? ⟨w.heap.size, j, none⟩ = (#[Value.string c.name, .string c.super, .slice a c.ifaces.length cap, .int .i64 c.flags, .int .i64 c.loader, mv])[j]? := fun j => World.cell?_alloc_new ..
  have hba : Below w.heap.size w (w.alloc (.cells #[.string c.name, .string c.super, .slice a c.ifaces.length cap, .int .i64 c.flags, .int .i64 c.loader, mv] 26)) := (Below.refl _ _).alloc (Nat.le_refl _) _
  have hza : w.heap.size < (w.alloc (.cells #[.string c.name, .string c.super, .slice a c.ifaces.length cap, .int .i64 c.flags, .int .i64 c.loader, mv] 26)).heap.size := World.block_lt_of_cell? _ _ (hce 0)
  have HCE := Lib.hid hce
  have HBA := Lib.hid hba
  clear hce hba
  go_enter Tryz.func85, Tryz.ntmps85
  go_wp2_with fail
  refine (HV1.out _ (HE.out.below HBA.out)).mono ?_
  rintro e w1 ⟨rfl, hb1⟩
  have c0 : w1.cell? ⟨w.heap.size, 0, none⟩ = some (.string c.name) := below_cell' hb1 (HCE.out 0)
  have c1 : w1.cell? ⟨w.heap.size, 1, none⟩ = some (.string c.super) := below_cell' hb1 (HCE.out 1)
  have c2 : w1.cell? ⟨w.heap.size, 2, none⟩ = some (.slice a c.ifaces.length cap) := below_cell' hb1 (HCE.out 2)
  have c3 : w1.cell? ⟨w.heap.size, 3, none⟩ = some (.int .i64 c.flags) := below_cell' hb1 (HCE.out 3)
  have c4 : w1.cell? ⟨w.heap.size, 4, none⟩ = some (.int .i64 c.loader) := below_cell' hb1 (HCE.out 4)
  have HB1 : Hid (Below w.heap.size w w1) := Lib.hid (HBA.out.trans (hb1.mono HBA.out.size))
  clear hb1 hza HCE HBA HV1
  cases v1
  · have G : Hid (R = false) := Lib.hid (HR.out (by rw [HH.out]; rfl))
    go_wp2
    go_ret
    exact ⟨by rw [G.out]; rfl, HB1.out⟩
  have HC2 := Lib.hid (fun (w' : World) (h : Below w1.heap.size w1 w') => (⟨below_cell' h c0, below_cell' h c1, below_cell' h c2, below_cell' h c3, below_cell' h c4⟩ : w'.cell? ⟨w.heap.size, 0, none⟩ = some (.string c.name) ∧ w'.cell? ⟨w.heap.size, 1, none⟩ = some (.string c.super) ∧ w'.cell? ⟨w.heap.size, 2, none⟩ = some (.slice a c.ifaces.length cap) ∧ w'.cell? ⟨w.heap.size, 3, none⟩ = some (.int .i64 c.flags) ∧ w'.cell? ⟨w.heap.size, 4, none⟩ = some (.int .i64 c.loader)))
  go_wp2_with fail
  refine (HV2.out _ (HE.out.below HB1.out)).mono ?_
  rintro e w2 ⟨rfl, hb2⟩
  obtain ⟨d0, d1, d2, d3, d4⟩ := HC2.out w2 hb2
  have HB2 : Hid (Below w.heap.size w w2) := Lib.hid (HB1.out.trans (hb2.mono HB1.out.size))
  clear hb2 c0 c1 c2 c3 c4 HC2 HB1 HV2
  cases v2
  · have G : Hid (R = false) := Lib.hid (HR.out (by rw [HH.out]; rfl))
    go_wp2
    go_ret
    exact ⟨by rw [G.out]; rfl, HB2.out⟩
  cases v3
  · go_wp2_with fail
    refine (HCC.out _).mono ?_
    rintro e _ ⟨rfl, rfl⟩
    cases v4
    · have G : Hid (R = false) := Lib.hid (HR.out (by rw [HH.out]; rfl))
      go_wp2
      go_ret
      exact ⟨by rw [G.out]; rfl, HB2.out⟩
    have HR3 : Hid (R = (((List.range c.ifaces.length).all fun k => ifcB c.name c.ifaces k) && (decide (c.ifaces.length ≤ 20) && decide (0 ≤ c.loader) && decide (c.loader ≤ 9)))) := Lib.hid (by rw [← HR2.out]; unfold headerB; rw [HH.out]; rfl)
    clear HR HH HR2
    have HDC := Lib.hid (fun (w' : World) (h : Below w2.heap.size w2 w') => (⟨below_cell' h d0, below_cell' h d2, below_cell' h d4⟩ : w'.cell? ⟨w.heap.size, 0, none⟩ = some (.string c.name) ∧ w'.cell? ⟨w.heap.size, 2, none⟩ = some (.slice a c.ifaces.length cap) ∧ w'.cell? ⟨w.heap.size, 4, none⟩ = some (.int .i64 c.loader)))
    clear HCC
    go_wp2_with fail
    go_loopg [31] c.ifaces.length (fun gk u wr => ∃ k : Nat, Hid (k + gk = c.ifaces.length ∧ ∀ j, j < k → ifcB c.name c.ifaces j = true) ∧ u = .int .i64 k ∧ Hid (Below w2.heap.size w2 wr))
    case atStart => exact ⟨0, Lib.hid ⟨Nat.zero_add _, fun j hj => by omega⟩, rfl, Lib.hid (Below.refl _ _)⟩
    case round =>
      obtain ⟨k, hk, rfl, hB⟩ := hrel
      have HBW : Hid (Below w.heap.size w wr) := Lib.hid (HB2.out.trans (hB.out.mono HB2.out.size))
      obtain ⟨a', c', hf, hle, hby, hcells⟩ := HI.out
      injection hf with hf1 hf2 hf3
      subst hf1; subst hf3
      obtain ⟨e0, e2, e4⟩ := HDC.out wr hB.out
      clear d0 d1 d2 d3 d4
      by_cases hlt : k < c.ifaces.length
      · have hlt' : (k : Int) < (c.ifaces.length : Int) := by omega
        have hkc : (k : Int) ≤ (cap : Int) := by omega
        rcases hcells with hnil | ⟨b, o, rfl, hSb, hcell⟩
        · rw [hnil] at hlt; simp at hlt
        obtain ⟨cs, hcl, hcs, hR⟩ := hcell k hlt
        obtain ⟨rfl, i1⟩ := hR
        have hbs := HS.out b hSb
        have g0 : wr.cell? ⟨b, o + k, none⟩ = some (.string c.ifaces[k]) := (World.cell?_of_block (w := w) (HBW.out.block b hbs)).trans (by simpa using hcs 0 (by simp))
        have HALL : Hid (∀ w' : World, Below wr.heap.size wr w' → ∀ j, j < c.ifaces.length → w'.cell? ⟨b, o + j, none⟩ = some (.string (c.ifaces.getD j ByteArray.empty))) := Lib.hid fun w' hb' j hj => by
          obtain ⟨cs', hcl', hcs', hR'⟩ := hcell j hj
          obtain ⟨rfl, _⟩ := hR'
          have := hcs' 0 (by simp)
          rw [List.getD_eq_getElem?_getD, List.getElem?_eq_getElem hj]
          exact (World.cell?_of_block (w := w) ((HBW.out.trans (hb'.mono HBW.out.size)).block b hbs)).trans (by simpa using this)
        have HV := Lib.hid (fun w' he' => Lf.Valid c.ifaces[k] w' i1 he')
        have HIF : Hid (ifcB c.name c.ifaces k = (Lf.validB c.ifaces[k].data.toList && !(c.ifaces[k].toList == c.name.toList) && !(Lib.containsS (c.ifaces.take k) c.ifaces[k]))) := Lib.hid (by unfold ifcB; rw [List.getElem?_eq_getElem hlt])
        have HCON := Lib.hid (fun (w' : World) (h : Below wr.heap.size wr w') (c' : Nat) => Tryz.slices_Contains_string b o k c' c.ifaces c.ifaces[k] w' (Nat.le_of_lt hlt) (by omega) (HALL.out w' h))
        clear hcs hcell hcl i1 HALL
        generalize c.ifaces[k] = s at g0 HV HIF HCON
        generalize Lf.validB s.data.toList = v1 at HV HIF
        obtain ⟨v2, q2⟩ : ∃ v, (s.toList == c.name.toList) = v := ⟨_, rfl⟩
        rw [q2] at HIF
        generalize Lib.containsS (c.ifaces.take k) s = v3 at HIF HCON
        have HBAD : Hid ((v1 && !v2 && !v3) = false → R = false) := Lib.hid (fun h => by
          rw [HR3.out]
          have : ((List.range c.ifaces.length).all fun k => ifcB c.name c.ifaces k) = false := by
            rw [List.all_eq_false]
            exact ⟨k, List.mem_range.2 hlt, by rw [HIF.out, h]; simp⟩
          rw [this]; rfl)
        have HNEXT : Hid ((v1 && !v2 && !v3) = true → ∀ j, j < k + 1 → ifcB c.name c.ifaces j = true) := Lib.hid fun h j hj => by
          by_cases e : j = k
          · subst e; rw [HIF.out]; exact h
          · exact hk.out.2 j (by omega)
        clear HIF
        have HE2 : Hid (∀ w' : World, Below wr.heap.size wr w' → w'.cell? ⟨w.heap.size, 0, none⟩ = some (.string c.name) ∧ w'.cell? ⟨w.heap.size, 2, none⟩ = some (.slice (some ⟨b, o, none⟩) c.ifaces.length cap) ∧ Below w2.heap.size w2 w' ∧ Below w.heap.size w w') := Lib.hid fun w' h => ⟨below_cell' h e0, below_cell' h e2, hB.out.trans (h.mono hB.out.size), HBW.out.trans (h.mono HBW.out.size)⟩
        go_wp2_with fail
        refine (HV.out _ (HE.out.below HBW.out)).mono ?_
        rintro e w3 ⟨rfl, hb3⟩
        obtain ⟨f0, f2, hB3, hW3⟩ := HE2.out w3 hb3
        have HB3 := Lib.hid hB3
        have HW3 := Lib.hid hW3
        have HC3 := Lib.hid (HCON.out w3 hb3)
        clear hb3 hB3 hW3 e0 e2 e4 g0 HE2 HV HCON HDC
        cases v1
        · have G : Hid (R = false) := Lib.hid (HBAD.out rfl)
          go_wp2
          go_ret
          exact ⟨by rw [G.out]; rfl, HW3.out⟩
        cases v2
        · go_wp2_with fail
          refine (HC3.out _).mono ?_
          rintro e _ ⟨rfl, rfl⟩
          cases v3
          · have G := Lib.hid (HNEXT.out rfl)
            go_wp2
            go_roundg (c.ifaces.length - (k + 1))
            case measure => have := hk.out.1; omega
            case rel => exact ⟨k + 1, Lib.hid ⟨by omega, G.out⟩, by go_num, HB3⟩
          · have G : Hid (R = false) := Lib.hid (HBAD.out rfl)
            go_wp2
            go_ret
            exact ⟨by rw [G.out]; rfl, HW3.out⟩
        · have G : Hid (R = false) := Lib.hid (HBAD.out rfl)
          go_wp2
          go_ret
          exact ⟨by rw [G.out]; rfl, HW3.out⟩
      · have G : Hid (R = (decide (c.ifaces.length ≤ 20) && decide (0 ≤ c.loader) && decide (c.loader ≤ 9))) := Lib.hid (by
          rw [HR3.out]
          have : ((List.range c.ifaces.length).all fun k => ifcB c.name c.ifaces k) = true := by
            rw [List.all_eq_true]
            intro j hj
            exact hk.out.2 j (by have := List.mem_range.1 hj; omega)
          rw [this]; rfl)
        clear hcells HBW
        have HBW : Hid (Below w.heap.size w wr) := Lib.hid (HB2.out.trans (hB.out.mono HB2.out.size))
        obtain ⟨y1, hy1⟩ : ∃ y, decide ((c.ifaces.length : Int) ≤ 20) = y := ⟨_, rfl⟩
        obtain ⟨y2, hy2⟩ : ∃ y, decide (0 ≤ c.loader) = y := ⟨_, rfl⟩
        obtain ⟨y3, hy3⟩ : ∃ y, decide (c.loader ≤ 9) = y := ⟨_, rfl⟩
        have G2 : Hid (R = (y1 && y2 && y3)) := Lib.hid (by
          have : decide (c.ifaces.length ≤ 20) = decide ((c.ifaces.length : Int) ≤ 20) := by rw [Bool.eq_iff_iff]; simp only [decide_eq_true_eq]; omega
          rw [G.out, this, hy1, hy2, hy3])
        clear G
        cases y1 <;> cases y2 <;> cases y3
        all_goals
          go_wp2
          go_ret
          exact ⟨by rw [G2.out]; rfl, HBW.out⟩
  · have G : Hid (R = false) := Lib.hid (HR.out (by rw [HH.out]; rfl))
    go_wp2
    go_ret
    exact ⟨by rw [G.out]; rfl, HB2.out⟩
end Go.Proofs.YtipinmbpdgjalaaGreatDoor.Pr
/- Shapes: a method's place in a class. -/
set_option maxRecDepth 100000
set_option maxHeartbeats 4000000
set_option linter.unusedVariables false
set_option linter.unusedSimpArgs false
namespace Go.Proofs.YtipinmbpdgjalaaGreatDoor.Pr
open Go.RowKit Bs Hi

/-- Is it the method of that name and descriptor? -/
def mEq (n d : ByteArray) (x : MethM) : Bool := (x.name.toList == n.toList) && (x.desc.toList == d.toList)
/-- Its place, or -1. -/
def findM (ms : List MethM) (n d : ByteArray) : Int := match ms.findIdx? (mEq n d) with | some i => (i : Int) | none => -1

theorem Find1 (n d : ByteArray) (w : World) (q1 q2 : Nat) (m : MethM) (v2 v3 v4 v5 : Value) (h1 : w.cell? ⟨q1, 0, none⟩ = some (.string n)) (h2 : w.cell? ⟨q2, 0, none⟩ = some (.string d)) :
    Calls Tryz.prog 94 #[.agg #[.string m.name, .string m.desc, v2, v3, v4, v5], .pointer (some ⟨q1, 0, none⟩), .pointer (some ⟨q2, 0, none⟩)] w fun e w' => e = .returned (.bool (mEq n d m)) ∧ Below w.heap.size w w' := by
  have g1 := alloc_old (x := .cells #[.string m.name, .string m.desc, v2, v3, v4, v5] 55) h1
  have g2 := alloc_old (x := .cells #[.string m.name, .string m.desc, v2, v3, v4, v5] 55) h2
  have HR : Hid (mEq n d m = ((m.name.toList == n.toList) && (m.desc.toList == d.toList))) := Lib.hid rfl
  obtain ⟨R, hR⟩ : ∃ R, mEq n d m = R := ⟨_, rfl⟩
  rw [hR] at HR ⊢
  obtain ⟨y1, e1⟩ : ∃ y, (m.name.toList == n.toList) = y := ⟨_, rfl⟩
  obtain ⟨y2, e2⟩ : ∃ y, (m.desc.toList == d.toList) = y := ⟨_, rfl⟩
  rw [e1, e2] at HR
  have HB : Hid (Below w.heap.size w (w.alloc (.cells #[.string m.name, .string m.desc, v2, v3, v4, v5] 55))) := Lib.hid ((Below.refl _ _).alloc (Nat.le_refl _) _)
  cases y1 <;> cases y2
  all_goals
    go_enter Tryz.func94, Tryz.ntmps94
    go_wp2
    go_ret
    exact ⟨by rw [HR.out]; rfl, HB.out⟩

theorem IndexM (S : Nat → Prop) (ms : List MethM) (a : Option Addr) (cap : Nat) (n d : ByteArray) (w : World) (q1 q2 : Nat) (hm : MethSl S w (.slice a ms.length cap) ms) (hS : ∀ k, S k → k < w.heap.size)
    (h1 : w.cell? ⟨q1, 0, none⟩ = some (.string n)) (h2 : w.cell? ⟨q2, 0, none⟩ = some (.string d)) :
    Calls Tryz.prog 93 #[.slice a ms.length cap, .func (.func 94) #[] #[.pointer (some ⟨q1, 0, none⟩), .pointer (some ⟨q2, 0, none⟩)]] w fun e w' => e = .returned (.int .i64 (findM ms n d)) ∧ Below w.heap.size w w' := by
  have HM := Lib.hid hm
  have HS := Lib.hid hS
  have HQ : Hid (∀ wr : World, Below w.heap.size w wr → wr.cell? ⟨q1, 0, none⟩ = some (.string n) ∧ wr.cell? ⟨q2, 0, none⟩ = some (.string d)) := Lib.hid fun wr hb => ⟨below_cell' hb h1, below_cell' hb h2⟩
  obtain ⟨a', c', hf, hle, hby, hcells⟩ := hm
  injection hf with hf1 hf2 hf3
  subst hf1; subst hf3
  clear hcells h1 h2 hS
  go_enter Tryz.func93, Tryz.ntmps93
  go_wp2_with fail
  go_loopg [5, 8] ms.length (fun gk _ u wr => ∃ k : Nat, Hid (k + gk = ms.length ∧ ∀ j (h : j < ms.length), j < k → mEq n d ms[j] = false) ∧ u = .int .i64 k ∧ Hid (Below w.heap.size w wr))
  case atStart => exact ⟨0, Lib.hid ⟨Nat.zero_add _, fun j h hj => by omega⟩, rfl, Lib.hid (Below.refl _ _)⟩
  case round =>
    obtain ⟨k, hk, rfl, hB⟩ := hrel
    by_cases hlt : k < ms.length
    · have hlt' : (k : Int) < (ms.length : Int) := by omega
      obtain ⟨a', c', hf, hle, hby, hcells⟩ := HM.out
      injection hf with hf1 hf2 hf3
      subst hf1; subst hf3
      rcases hcells with hnil | ⟨b, o, rfl, hSb, hcell⟩
      · rw [hnil] at hlt; simp at hlt
      obtain ⟨cs, hcl, hcs, hR⟩ := hcell k hlt
      obtain ⟨cv, rfl, i1, i2, i3, i4, i5, i6⟩ := hR
      have HHIT : Hid (mEq n d ms[k] = true → findM ms n d = (k : Int)) := Lib.hid fun h => by
        unfold findM
        rw [List.findIdx?_eq_some_iff_getElem.2 ⟨hlt, h, fun j hj => by simp [hk.out.2 j (by omega) hj]⟩]
      have HNEXT : Hid (mEq n d ms[k] = false → ∀ j (h : j < ms.length), j < k + 1 → mEq n d ms[j] = false) := Lib.hid fun h j hj hjk => by
        by_cases e : j = k
        · subst e; exact h
        · exact hk.out.2 j hj (by omega)
      have hbs := HS.out b hSb
      have cel : ∀ {j : Nat} {v : Value}, w.cell? ⟨b, j, none⟩ = some v → wr.cell? ⟨b, j, none⟩ = some v := fun hv => (World.cell?_of_block (w := w) (hB.out.block b hbs)).trans hv
      have g0 := cel (hcs 0 (by simp))
      have g1 := cel (hcs 1 (by simp))
      have g2 := cel (hcs 2 (by simp))
      have g3 := cel (hcs 3 (by simp))
      have g4 := cel (hcs 4 (by simp))
      have g5 := cel (hcs 5 (by simp))
      simp only [List.getElem_cons_zero, List.getElem_cons_succ, Nat.add_zero] at g0 g1 g2 g3 g4 g5
      have HF := Lib.hid (fun (w' : World) (h : Below w.heap.size w w') => Find1 n d w' q1 q2 ms[k] (.int .i64 ms[k].flags) (.int .i64 ms[k].locals) (.int .i64 ms[k].stack) cv (HQ.out w' h).1 (HQ.out w' h).2)
      clear hcs cel hcell i1 i2 i3 i4 i5 i6 hcl
      generalize mEq n d ms[k] = hit at HHIT HNEXT HF
      go_wp2_with fail
      refine (HF.out _ hB.out).mono ?_
      rintro e w1 ⟨rfl, hb1⟩
      have HB1 : Hid (Below w.heap.size w w1) := Lib.hid (hB.out.trans (hb1.mono hB.out.size))
      clear hb1 g0 g1 g2 g3 g4 g5
      cases hit
      · have G := Lib.hid (HNEXT.out rfl)
        go_wp2
        go_roundg (ms.length - (k + 1))
        case measure => have := hk.out.1; omega
        case rel => exact ⟨k + 1, Lib.hid ⟨by omega, G.out⟩, by go_num, HB1⟩
      · have G := Lib.hid (HHIT.out rfl)
        go_wp2
        go_ret
        exact ⟨by rw [G.out]; rfl, HB1.out⟩
    · have F : Hid (findM ms n d = -1) := Lib.hid (by
        unfold findM
        rw [List.findIdx?_eq_none_iff.2 (fun x hx => by
          obtain ⟨j, hj, rfl⟩ := List.getElem_of_mem hx
          exact hk.out.2 j hj (by omega))])
      go_wp2
      go_ret
      exact ⟨by rw [F.out]; rfl, hB.out⟩

theorem Find (S : Nat → Prop) (ms : List MethM) (a : Option Addr) (cap : Nat) (n d : ByteArray) (w : World) (v0 v1 v2 v3 v4 : Value) (hm : MethSl S w (.slice a ms.length cap) ms) (hS : ∀ k, S k → k < w.heap.size) :
    Calls Tryz.prog 63 #[.agg #[v0, v1, v2, v3, v4, .slice a ms.length cap], .string n, .string d] w fun e w' => e = .returned (.int .i64 (findM ms n d)) ∧ Below w.heap.size w w' := by
  have hB : Below w.heap.size w (((w.alloc (.cells #[v0, v1, v2, v3, v4, .slice a ms.length cap] 26)).alloc (.cells #[.string n] 9)).alloc (.cells #[.string d] 9)) :=
    (((Below.refl _ _).alloc (Nat.le_refl _) _).alloc (by simp) _).alloc (by simp; omega) _
  have HI := Lib.hid (IndexM S ms a cap n d (((w.alloc (.cells #[v0, v1, v2, v3, v4, .slice a ms.length cap] 26)).alloc (.cells #[.string n] 9)).alloc (.cells #[.string d] 9)) (w.heap.size + 1) (w.heap.size + 1 + 1)
    (hm.alike (Alike.of_below hB hS)) (fun k hk => Nat.lt_of_lt_of_le (hS k hk) hB.size)
    (alloc_old (by simp))
    (by have := World.cell?_alloc_new ((w.alloc (.cells #[v0, v1, v2, v3, v4, .slice a ms.length cap] 26)).alloc (.cells #[.string n] 9)) #[.string d] 9 0; simpa using this))
  have HB := Lib.hid hB
  clear hB hm hS
  go_enter Tryz.func63, Tryz.ntmps63
  go_wp2_with fail
  refine HI.out.mono ?_
  rintro e w1 ⟨rfl, hb1⟩
  have HB1 : Hid (Below w.heap.size w w1) := Lib.hid (HB.out.trans (hb1.mono HB.out.size))
  go_wp2
  go_ret
  exact ⟨rfl, HB1.out⟩
end Go.Proofs.YtipinmbpdgjalaaGreatDoor.Pr
/- Shapes: a class. -/
set_option maxRecDepth 100000
set_option maxHeartbeats 4000000
set_option linter.unusedVariables false
set_option linter.unusedSimpArgs false
namespace Go.Proofs.YtipinmbpdgjalaaGreatDoor.Pr
open Go.RowKit Bs Hi

/-- Is it an interface? -/
def isIfc (c : ClsM) : Bool := bits .and .i64 c.flags 512 != 0
def methOk (c : ClsM) (k : Nat) : Bool := match c.meths[k]? with
  | some m => methodB m (isIfc c) && decide (findM c.meths m.name m.desc = k)
  | none => true
/-- Is the class sound? -/
def chk (c : ClsM) : Bool := decide (c.meths.length ≤ 40) && decide (c.ifaces.length ≤ 20) && headerB c && (List.range c.meths.length).all (methOk c)

theorem Check5 (S : Nat → Prop) (c : ClsM) (cs : List Value) (w : World) (hc : ClsIs S w cs c) (hS : ∀ k, S k → k < w.heap.size) (he : Lf.Env w) :
    Calls Tryz.prog 49 #[.agg cs.toArray] w fun e w' => e = .returned (.int .i64 (formE (chk c))) ∧ Below w.heap.size w w' := by
  obtain ⟨iv, mv, rfl, p1, p2, hi, p3, p4, hm⟩ := hc
  have hi' := hi
  have hm' := hm
  obtain ⟨ia, ic, rfl, il, ib, _⟩ := hi'
  obtain ⟨ma, mc, rfl, ml, mb, _⟩ := hm'
  have HE := Lib.hid he
  have HS := Lib.hid hS
  have HM := Lib.hid hm
  have HH := Lib.hid (fun (w' : World) (h : Below w.heap.size w w') => header S c ia ic (.slice ma c.meths.length mc) w' p1 p2 (hi.alike (Alike.of_below h hS)) (fun k hk => Nat.lt_of_lt_of_le (hS k hk) h.size) (he.below h))
  have HF := Lib.hid (fun (w' : World) (h : Below w.heap.size w w') (n d : ByteArray) => Find S c.meths ma mc n d w' (.string c.name) (.string c.super) (.slice ia c.ifaces.length ic) (.int .i64 c.flags) (.int .i64 c.loader) (hm.alike (Alike.of_below h hS)) (fun k hk => Nat.lt_of_lt_of_le (hS k hk) h.size))
  obtain ⟨R, hR⟩ : ∃ R, chk c = R := ⟨_, rfl⟩
  have HR : Hid (R = (decide (c.meths.length ≤ 40) && decide (c.ifaces.length ≤ 20) && headerB c && (List.range c.meths.length).all (methOk c))) := Lib.hid hR.symm
  rw [show [Value.string c.name, .string c.super, .slice ia c.ifaces.length ic, .int .i64 c.flags, .int .i64 c.loader, .slice ma c.meths.length mc].toArray = #[Value.string c.name, .string c.super, .slice ia c.ifaces.length ic, .int .i64 c.flags, .int .i64 c.loader, .slice ma c.meths.length mc] from rfl]
  rw [hR]
  have hce : ∀ j : Nat, (w.alloc (.cells #[Value.string c.name, .string c.super, .slice ia c.ifaces.length ic, .int .i64 c.flags, .int .i64 c.loader, .slice ma c.meths.length mc] 26)).cell? ⟨w.heap.size, j, none⟩ = (#[Value.string c.name, .string c.super, .slice ia c.ifaces.length ic, .int .i64 c.flags, .int .i64 c.loader, .slice ma c.meths.length mc])[j]? := fun j => World.cell?_alloc_new ..
  have HCE := Lib.hid hce
  have HBA : Hid (Below w.heap.size w (w.alloc (.cells #[Value.string c.name, .string c.super, .slice ia c.ifaces.length ic, .int .i64 c.flags, .int .i64 c.loader, .slice ma c.meths.length mc] 26))) := Lib.hid ((Below.refl _ _).alloc (Nat.le_refl _) _)
  clear hi hm hS he hR p1 p2 p3 p4 hce
  obtain ⟨y1, hy1⟩ : ∃ y, decide ((c.meths.length : Int) ≤ 40) = y := ⟨_, rfl⟩
  obtain ⟨y2, hy2⟩ : ∃ y, decide ((c.ifaces.length : Int) ≤ 20) = y := ⟨_, rfl⟩
  have HR1 : Hid (R = (y1 && y2 && headerB c && (List.range c.meths.length).all (methOk c))) := Lib.hid (by
    have a1 : decide (c.meths.length ≤ 40) = decide ((c.meths.length : Int) ≤ 40) := by rw [Bool.eq_iff_iff]; simp only [decide_eq_true_eq]; omega
    have a2 : decide (c.ifaces.length ≤ 20) = decide ((c.ifaces.length : Int) ≤ 20) := by rw [Bool.eq_iff_iff]; simp only [decide_eq_true_eq]; omega
    rw [HR.out, a1, a2, hy1, hy2])
  clear HR
  generalize headerB c = hb at HH HR1
  have z1 : decide ((40 : Int) < (c.meths.length : Int)) = !y1 := by rw [← hy1, Bool.eq_iff_iff]; simp
  have z2 : decide ((20 : Int) < (c.ifaces.length : Int)) = !y2 := by rw [← hy2, Bool.eq_iff_iff]; simp
  cases y1
  · have G : Hid (R = false) := Lib.hid (by rw [HR1.out]; rfl)
    go_enter Tryz.func49, Tryz.ntmps49
    go_wp2
    go_ret
    exact ⟨by rw [G.out]; rfl, HBA.out⟩
  cases y2
  · have G : Hid (R = false) := Lib.hid (by rw [HR1.out]; rfl)
    go_enter Tryz.func49, Tryz.ntmps49
    go_wp2
    go_ret
    exact ⟨by rw [G.out]; rfl, HBA.out⟩
  go_enter Tryz.func49, Tryz.ntmps49
  go_wp2_with fail
  refine (HH.out _ HBA.out).mono ?_
  rintro e w1 ⟨rfl, hb1⟩
  have cel : ∀ {j : Nat} {v : Value}, (#[Value.string c.name, .string c.super, .slice ia c.ifaces.length ic, .int .i64 c.flags, .int .i64 c.loader, .slice ma c.meths.length mc])[j]? = some v → w1.cell? ⟨w.heap.size, j, none⟩ = some v := fun h => below_cell' hb1 ((HCE.out _).trans h)
  have c0 : w1.cell? ⟨w.heap.size, 0, none⟩ = some (.string c.name) := cel (j := 0) rfl
  have c1 : w1.cell? ⟨w.heap.size, 1, none⟩ = some (.string c.super) := cel (j := 1) rfl
  have c2 : w1.cell? ⟨w.heap.size, 2, none⟩ = some (.slice ia c.ifaces.length ic) := cel (j := 2) rfl
  have c3 : w1.cell? ⟨w.heap.size, 3, none⟩ = some (.int .i64 c.flags) := cel (j := 3) rfl
  have c4 : w1.cell? ⟨w.heap.size, 4, none⟩ = some (.int .i64 c.loader) := cel (j := 4) rfl
  have c5 : w1.cell? ⟨w.heap.size, 5, none⟩ = some (.slice ma c.meths.length mc) := cel (j := 5) rfl
  have HB1 : Hid (Below w.heap.size w w1) := Lib.hid (HBA.out.trans (hb1.mono HBA.out.size))
  clear cel hb1 HCE HBA HH
  cases hb
  · have G : Hid (R = false) := Lib.hid (by rw [HR1.out]; rfl)
    go_wp2
    go_ret
    exact ⟨by rw [G.out]; rfl, HB1.out⟩
  have HC6 := Lib.hid (fun (w' : World) (h : Below w1.heap.size w1 w') => (⟨below_cell' h c0, below_cell' h c1, below_cell' h c2, below_cell' h c3, below_cell' h c4, below_cell' h c5⟩ : w'.cell? ⟨w.heap.size, 0, none⟩ = some (.string c.name) ∧ w'.cell? ⟨w.heap.size, 1, none⟩ = some (.string c.super) ∧ w'.cell? ⟨w.heap.size, 2, none⟩ = some (.slice ia c.ifaces.length ic) ∧ w'.cell? ⟨w.heap.size, 3, none⟩ = some (.int .i64 c.flags) ∧ w'.cell? ⟨w.heap.size, 4, none⟩ = some (.int .i64 c.loader) ∧ w'.cell? ⟨w.heap.size, 5, none⟩ = some (.slice ma c.meths.length mc)))
  have HR2 : Hid (R = (List.range c.meths.length).all (methOk c)) := Lib.hid (by rw [HR1.out]; rfl)
  clear HR1
  go_wp2_with fail
  go_loopg [23] c.meths.length (fun gk u wr => ∃ k : Nat, Hid (k + gk = c.meths.length ∧ ∀ j, j < k → methOk c j = true) ∧ u = .int .i64 k ∧ Hid (Below w1.heap.size w1 wr))
  case atStart => exact ⟨0, Lib.hid ⟨Nat.zero_add _, fun j hj => by omega⟩, rfl, Lib.hid (Below.refl _ _)⟩
  case round =>
    obtain ⟨k, hk, rfl, hB⟩ := hrel
    clear c0 c1 c2 c3 c4 c5
    have HBW : Hid (Below w.heap.size w wr) := Lib.hid (HB1.out.trans (hB.out.mono HB1.out.size))
    by_cases hlt : k < c.meths.length
    · have hlt' : (k : Int) < (c.meths.length : Int) := by omega
      obtain ⟨a', c', hf, hle, hby, hcells⟩ := HM.out
      injection hf with hf1 hf2 hf3
      subst hf1; subst hf3
      rcases hcells with hnil | ⟨b, o, rfl, hSb, hcell⟩
      · rw [hnil] at hlt; simp at hlt
      obtain ⟨cs, hcl, hcs, hR⟩ := hcell k hlt
      have hR' := hR
      obtain ⟨cv, rfl, i1, i2, i3, i4, i5, i6⟩ := hR'
      obtain ⟨ca, cc, rfl, _, _, _⟩ := i6
      have HBAD : Hid (methOk c k = false → R = false) := Lib.hid fun h => by
        rw [HR2.out, List.all_eq_false]
        exact ⟨k, List.mem_range.2 hlt, by rw [h]; simp⟩
      have HNEXT : Hid (methOk c k = true → ∀ j, j < k + 1 → methOk c j = true) := Lib.hid fun h j hj => by
        by_cases e : j = k
        · subst e; exact h
        · exact hk.out.2 j (by omega)
      have HOK : Hid (methOk c k = (methodB c.meths[k] (isIfc c) && decide (findM c.meths c.meths[k].name c.meths[k].desc = k))) := Lib.hid (by unfold methOk; rw [List.getElem?_eq_getElem hlt])
      have hbs := HS.out b hSb
      have cel : ∀ {j : Nat} {v : Value}, w.cell? ⟨b, j, none⟩ = some v → wr.cell? ⟨b, j, none⟩ = some v := fun hv => (World.cell?_of_block (w := w) (HBW.out.block b hbs)).trans hv
      have g0 := cel (hcs 0 (by simp))
      have g1 := cel (hcs 1 (by simp))
      have g2 := cel (hcs 2 (by simp))
      have g3 := cel (hcs 3 (by simp))
      have g4 := cel (hcs 4 (by simp))
      have g5 := cel (hcs 5 (by simp))
      simp only [List.getElem_cons_zero, List.getElem_cons_succ, Nat.add_zero] at g0 g1 g2 g3 g4 g5
      have HX : Hid (∀ w', Below w.heap.size w w' → Calls Tryz.prog 86 #[.agg #[.string c.meths[k].name, .string c.meths[k].desc, .int .i64 c.meths[k].flags, .int .i64 c.meths[k].locals, .int .i64 c.meths[k].stack, .slice ca c.meths[k].code.length cc], .bool (isIfc c)] w' fun e w'' => e = .returned (.bool (methodB c.meths[k] (isIfc c))) ∧ Below w'.heap.size w' w'') := Lib.hid fun w' h =>
        method S c.meths[k] (isIfc c) ca cc w' (hR.alike (Alike.of_below h HS.out)) (fun k hk => Nat.lt_of_lt_of_le (HS.out k hk) h.size) (HE.out.below h)
      have HFI := Lib.hid (fun (w' : World) (h : Below w.heap.size w w') => HF.out w' h c.meths[k].name c.meths[k].desc)
      have HTY : Hid ((bits .and .i64 c.flags 512 != 0) = isIfc c) := Lib.hid rfl
      clear hcs cel hcell i1 i2 i3 i4 i5 hcl hR
      generalize c.meths[k] = m at g0 g1 g2 g3 g4 g5 HX HFI HOK
      generalize isIfc c = fi at HX HOK HTY
      generalize methodB m fi = mb at HX HOK
      generalize findM c.meths m.name m.desc = fk at HFI HOK
      generalize methOk c k = mok at HBAD HNEXT HOK
      obtain ⟨ec0, ec1, ec2, ec3, ec4, ec5⟩ := HC6.out wr hB.out
      have HBA := Lib.hid ((hB.out.alloc hB.out.size (.cells #[.string m.name, .string m.desc, .int .i64 m.flags, .int .i64 m.locals, .int .i64 m.stack, .slice ca m.code.length cc] 55)))
      have ce : ∀ j : Nat, (wr.alloc (.cells #[.string m.name, .string m.desc, .int .i64 m.flags, .int .i64 m.locals, .int .i64 m.stack, .slice ca m.code.length cc] 55)).cell? ⟨wr.heap.size, j, none⟩ = (#[Value.string m.name, .string m.desc, .int .i64 m.flags, .int .i64 m.locals, .int .i64 m.stack, .slice ca m.code.length cc])[j]? := fun j => World.cell?_alloc_new ..
      have hty := HTY.out
      have ef := alloc_old (x := .cells #[.string m.name, .string m.desc, .int .i64 m.flags, .int .i64 m.locals, .int .i64 m.stack, .slice ca m.code.length cc] 55) ec3
      have HBAW : Hid (Below w.heap.size w (wr.alloc (.cells #[.string m.name, .string m.desc, .int .i64 m.flags, .int .i64 m.locals, .int .i64 m.stack, .slice ca m.code.length cc] 55))) := Lib.hid (HB1.out.trans (HBA.out.mono HB1.out.size))
      go_wp2_with fail
      refine (HX.out _ HBAW.out).mono ?_
      rintro e w2 ⟨rfl, hb2⟩
      have m0 : w2.cell? ⟨wr.heap.size, 0, none⟩ = some (.string m.name) := below_cell' hb2 (ce 0)
      have m1 : w2.cell? ⟨wr.heap.size, 1, none⟩ = some (.string m.desc) := below_cell' hb2 (ce 1)
      have HB2 : Hid (Below w1.heap.size w1 w2) := Lib.hid (HBA.out.trans (hb2.mono HBA.out.size))
      have HBW2 : Hid (Below w.heap.size w w2) := Lib.hid (HBAW.out.trans (hb2.mono HBAW.out.size))
      clear hb2 ce ec0 ec1 ec2 ec3 ec4 ec5 ef hty g0 g1 g2 g3 g4 g5 HX HTY HBAW HBA
      cases mb
      · have G : Hid (R = false) := Lib.hid (HBAD.out (by rw [HOK.out]; rfl))
        go_wp2
        go_ret
        exact ⟨by rw [G.out]; rfl, HBW2.out⟩
      obtain ⟨ec0, ec1, ec2, ec3, ec4, ec5⟩ := HC6.out w2 HB2.out
      go_wp2_with fail
      refine (HFI.out _ HBW2.out).mono ?_
      rintro e w3 ⟨rfl, hb3⟩
      have HB3 : Hid (Below w1.heap.size w1 w3) := Lib.hid (HB2.out.trans (hb3.mono HB2.out.size))
      have HBW3 : Hid (Below w.heap.size w w3) := Lib.hid (HBW2.out.trans (hb3.mono HBW2.out.size))
      clear hb3 ec0 ec1 ec2 ec3 ec4 ec5 m0 m1 HFI
      by_cases hfk : fk = (k : Int)
      · have G := Lib.hid (HNEXT.out (by rw [HOK.out]; simp [hfk]))
        have hne : (fk != (k : Int)) = false := by simp [hfk]
        go_wp2
        go_roundg (c.meths.length - (k + 1))
        case measure => have := hk.out.1; omega
        case rel => exact ⟨k + 1, Lib.hid ⟨by omega, G.out⟩, by go_num, HB3⟩
      · have G : Hid (R = false) := Lib.hid (HBAD.out (by rw [HOK.out]; simp [hfk]))
        have hne : (fk != (k : Int)) = true := by simp [hfk]
        go_wp2
        go_ret
        exact ⟨by rw [G.out]; rfl, HBW3.out⟩
    · have G : Hid (R = true) := Lib.hid (by
        rw [HR2.out, List.all_eq_true]
        intro j hj
        exact hk.out.2 j (by have := List.mem_range.1 hj; omega))
      go_wp2
      go_ret
      exact ⟨by rw [G.out]; rfl, HBW.out⟩
end Go.Proofs.YtipinmbpdgjalaaGreatDoor.Pr
