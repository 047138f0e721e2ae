/- Shapes: words. -/
import Derived.Test.YtilckbljealhgaaDoorMR
set_option maxRecDepth 100000
set_option maxHeartbeats 2000000
set_option linter.unusedVariables false
set_option linter.unusedSimpArgs false
namespace Go.Proofs.YtilckbljealhgaaDoor.Pr
open Go.RowKit Bs Hi

def descOf (m : MethM) : DescR := descM m.desc.data.toList
def noStatic (f : Int) : Bool := bits .and .i64 f 8 == 0
/-- How many locals the arguments take. -/
def wordsR (m : MethM) : Int × Int := if (descOf m).err = 0 then (if noStatic m.flags = true then ((descOf m).n : Int) + 1 else (descOf m).n, 0) else (0, 1)

theorem argsM_n : ∀ (f : Nat) (l : List UInt8) (n : Nat) (wd : Bool), (argsM f l n wd).n ≤ n + f
  | 0, l, n, wd => Nat.le_refl _
  | f + 1, l, n, wd => by
    unfold argsM
    split
    · simp
    · split
      · have := argsM_n f (tail l).rest (n + 1) (wd || decide (255 < (brackets l : Int))); omega
      · simp
theorem descEnd_n (ok : Bool) (l : List UInt8) (n : Nat) (wd v : Bool) (rd : Int) (rn : List UInt8) : (descEnd ok l n wd v rd rn).n ≤ 20 := by
  unfold descEnd
  split
  · simp
  · split
    · simp
    · rename_i h
      simp at h ⊢
      omega
theorem descM_n (l : List UInt8) : (descM l).n ≤ 20 := by
  unfold descM
  split
  · simp
  · split
    · dsimp only
      split
      · split
        · exact descEnd_n ..
        · exact descEnd_n ..
      · exact descEnd_n ..
    · exact descEnd_n ..

end Go.Proofs.YtilckbljealhgaaDoor.Pr
/- Shapes: a method. -/
set_option maxRecDepth 100000
set_option maxHeartbeats 2000000
set_option linter.unusedVariables false
set_option linter.unusedSimpArgs false
namespace Go.Proofs.YtilckbljealhgaaDoor.Pr
open Go.RowKit Bs Hi

def isAbs (f : Int) : Bool := bits .and .i64 f 1024 != 0
/-- Is what stands behind a method's flags fine? -/
def bodyB (m : MethM) : Bool :=
  if isAbs m.flags = true then decide (m.locals = 0) && decide (m.stack = 0) && decide (m.code.length = 0)
  else decide ((wordsR m).1 ≤ m.locals) && decide (m.locals ≤ 40) && decide (0 ≤ m.stack) && decide (m.stack ≤ 40) && codeB m.code m.locals
/-- Is a method sound in a class? -/
def methodB (m : MethM) (iface : Bool) : Bool :=
  decide ((descOf m).err = 0) && Lf.memberB m.name && !(Lf.initB m.name && !(descOf m).void) && Lf.methodFlags m.flags iface (Lf.initB m.name) && bodyB m

end Go.Proofs.YtilckbljealhgaaDoor.Pr
/- Shapes: what stands ahead of the methods. -/
set_option maxRecDepth 100000
set_option maxHeartbeats 4000000
set_option linter.unusedVariables false
set_option linter.unusedSimpArgs false
namespace Go.Proofs.YtilckbljealhgaaDoor.Pr
open Go.RowKit Bs Hi

/-- Is an interface's name sound at its place? -/
def ifcB (name : ByteArray) (xs : List ByteArray) (k : Nat) : Bool := match xs[k]? with
  | some s => Lf.validB s.data.toList && !(s.toList == name.toList) && !(Lib.containsS (xs.take k) s)
  | none => true
def headB (c : ClsM) : Bool := Lf.validB c.name.data.toList && Lf.validB c.super.data.toList && !(c.name.toList == c.super.toList) && Lf.classFlags c.flags
/-- Is what stands ahead of the methods sound? -/
def headerB (c : ClsM) : Bool := headB c && ((List.range c.ifaces.length).all fun k => ifcB c.name c.ifaces k) && (decide (c.ifaces.length ≤ 20) && decide (0 ≤ c.loader) && decide (c.loader ≤ 9))

end Go.Proofs.YtilckbljealhgaaDoor.Pr
/- Shapes: a method's place in a class. -/
set_option maxRecDepth 100000
set_option maxHeartbeats 4000000
set_option linter.unusedVariables false
set_option linter.unusedSimpArgs false
namespace Go.Proofs.YtilckbljealhgaaDoor.Pr
open Go.RowKit Bs Hi

/-- Is it the method of that name and descriptor? -/
def mEq (n d : ByteArray) (x : MethM) : Bool := (x.name.toList == n.toList) && (x.desc.toList == d.toList)
/-- Its place, or -1. -/
def findM (ms : List MethM) (n d : ByteArray) : Int := match ms.findIdx? (mEq n d) with | some i => (i : Int) | none => -1

theorem Find1 (n d : ByteArray) (w : World) (q1 q2 : Nat) (m : MethM) (v2 v3 v4 v5 : Value) (h1 : w.cell? ⟨q1, 0, none⟩ = some (.string n)) (h2 : w.cell? ⟨q2, 0, none⟩ = some (.string d)) :
    Calls Tryd.prog 76 #[.agg #[.string m.name, .string m.desc, v2, v3, v4, v5], .pointer (some ⟨q1, 0, none⟩), .pointer (some ⟨q2, 0, none⟩)] w fun e w' => e = .returned (.bool (mEq n d m)) ∧ Below w.heap.size w w' := by
  have g1 := alloc_old (x := .cells #[.string m.name, .string m.desc, v2, v3, v4, v5] 82) h1
  have g2 := alloc_old (x := .cells #[.string m.name, .string m.desc, v2, v3, v4, v5] 82) h2
  have HR : Hid (mEq n d m = ((m.name.toList == n.toList) && (m.desc.toList == d.toList))) := Lib.hid rfl
  obtain ⟨R, hR⟩ : ∃ R, mEq n d m = R := ⟨_, rfl⟩
  rw [hR] at HR ⊢
  obtain ⟨y1, e1⟩ : ∃ y, (m.name.toList == n.toList) = y := ⟨_, rfl⟩
  obtain ⟨y2, e2⟩ : ∃ y, (m.desc.toList == d.toList) = y := ⟨_, rfl⟩
  rw [e1, e2] at HR
  have HB : Hid (Below w.heap.size w (w.alloc (.cells #[.string m.name, .string m.desc, v2, v3, v4, v5] 82))) := Lib.hid ((Below.refl _ _).alloc (Nat.le_refl _) _)
  cases y1 <;> cases y2
  all_goals
    go_enter Tryd.func76, Tryd.ntmps76
    go_wp2
    go_ret
    exact ⟨by rw [HR.out]; rfl, HB.out⟩

theorem IndexM (S : Nat → Prop) (ms : List MethM) (a : Option Addr) (cap : Nat) (n d : ByteArray) (w : World) (q1 q2 : Nat) (hm : MethSl S w (.slice a ms.length cap) ms) (hS : ∀ k, S k → k < w.heap.size)
    (h1 : w.cell? ⟨q1, 0, none⟩ = some (.string n)) (h2 : w.cell? ⟨q2, 0, none⟩ = some (.string d)) :
    Calls Tryd.prog 75 #[.slice a ms.length cap, .func (.func 76) #[] #[.pointer (some ⟨q1, 0, none⟩), .pointer (some ⟨q2, 0, none⟩)]] w fun e w' => e = .returned (.int .i64 (findM ms n d)) ∧ Below w.heap.size w w' := by
  have HM := Lib.hid hm
  have HS := Lib.hid hS
  have HQ : Hid (∀ wr : World, Below w.heap.size w wr → wr.cell? ⟨q1, 0, none⟩ = some (.string n) ∧ wr.cell? ⟨q2, 0, none⟩ = some (.string d)) := Lib.hid fun wr hb => ⟨below_cell' hb h1, below_cell' hb h2⟩
  obtain ⟨a', c', hf, hle, hby, hcells⟩ := hm
  injection hf with hf1 hf2 hf3
  subst hf1; subst hf3
  clear hcells h1 h2 hS
  go_enter Tryd.func75, Tryd.ntmps75
  go_wp2_with fail
  go_loopg [5, 8] ms.length (fun gk _ u wr => ∃ k : Nat, Hid (k + gk = ms.length ∧ ∀ j (h : j < ms.length), j < k → mEq n d ms[j] = false) ∧ u = .int .i64 k ∧ Hid (Below w.heap.size w wr))
  case atStart => exact ⟨0, Lib.hid ⟨Nat.zero_add _, fun j h hj => by omega⟩, rfl, Lib.hid (Below.refl _ _)⟩
  case round =>
    obtain ⟨k, hk, rfl, hB⟩ := hrel
    by_cases hlt : k < ms.length
    · have hlt' : (k : Int) < (ms.length : Int) := by omega
      obtain ⟨a', c', hf, hle, hby, hcells⟩ := HM.out
      injection hf with hf1 hf2 hf3
      subst hf1; subst hf3
      rcases hcells with hnil | ⟨b, o, rfl, hSb, hcell⟩
      · rw [hnil] at hlt; simp at hlt
      obtain ⟨cs, hcl, hcs, hR⟩ := hcell k hlt
      obtain ⟨cv, rfl, i1, i2, i3, i4, i5, i6⟩ := hR
      have HHIT : Hid (mEq n d ms[k] = true → findM ms n d = (k : Int)) := Lib.hid fun h => by
        unfold findM
        rw [List.findIdx?_eq_some_iff_getElem.2 ⟨hlt, h, fun j hj => by simp [hk.out.2 j (by omega) hj]⟩]
      have HNEXT : Hid (mEq n d ms[k] = false → ∀ j (h : j < ms.length), j < k + 1 → mEq n d ms[j] = false) := Lib.hid fun h j hj hjk => by
        by_cases e : j = k
        · subst e; exact h
        · exact hk.out.2 j hj (by omega)
      have hbs := HS.out b hSb
      have cel : ∀ {j : Nat} {v : Value}, w.cell? ⟨b, j, none⟩ = some v → wr.cell? ⟨b, j, none⟩ = some v := fun hv => (World.cell?_of_block (w := w) (hB.out.block b hbs)).trans hv
      have g0 := cel (hcs 0 (by simp))
      have g1 := cel (hcs 1 (by simp))
      have g2 := cel (hcs 2 (by simp))
      have g3 := cel (hcs 3 (by simp))
      have g4 := cel (hcs 4 (by simp))
      have g5 := cel (hcs 5 (by simp))
      simp only [List.getElem_cons_zero, List.getElem_cons_succ, Nat.add_zero] at g0 g1 g2 g3 g4 g5
      have HF := Lib.hid (fun (w' : World) (h : Below w.heap.size w w') => Find1 n d w' q1 q2 ms[k] (.int .i64 ms[k].flags) (.int .i64 ms[k].locals) (.int .i64 ms[k].stack) cv (HQ.out w' h).1 (HQ.out w' h).2)
      clear hcs cel hcell i1 i2 i3 i4 i5 i6 hcl
      generalize mEq n d ms[k] = hit at HHIT HNEXT HF
      go_wp2_with fail
      refine (HF.out _ hB.out).mono ?_
      rintro e w1 ⟨rfl, hb1⟩
      have HB1 : Hid (Below w.heap.size w w1) := Lib.hid (hB.out.trans (hb1.mono hB.out.size))
      clear hb1 g0 g1 g2 g3 g4 g5
      cases hit
      · have G := Lib.hid (HNEXT.out rfl)
        go_wp2
        go_roundg (ms.length - (k + 1))
        case measure => have := hk.out.1; omega
        case rel => exact ⟨k + 1, Lib.hid ⟨by omega, G.out⟩, by go_num, HB1⟩
      · have G := Lib.hid (HHIT.out rfl)
        go_wp2
        go_ret
        exact ⟨by rw [G.out]; rfl, HB1.out⟩
    · have F : Hid (findM ms n d = -1) := Lib.hid (by
        unfold findM
        rw [List.findIdx?_eq_none_iff.2 (fun x hx => by
          obtain ⟨j, hj, rfl⟩ := List.getElem_of_mem hx
          exact hk.out.2 j hj (by omega))])
      go_wp2
      go_ret
      exact ⟨by rw [F.out]; rfl, hB.out⟩

theorem Find (S : Nat → Prop) (ms : List MethM) (a : Option Addr) (cap : Nat) (n d : ByteArray) (w : World) (v0 v1 v2 v3 v4 : Value) (hm : MethSl S w (.slice a ms.length cap) ms) (hS : ∀ k, S k → k < w.heap.size) :
    Calls Tryd.prog 61 #[.agg #[v0, v1, v2, v3, v4, .slice a ms.length cap], .string n, .string d] w fun e w' => e = .returned (.int .i64 (findM ms n d)) ∧ Below w.heap.size w w' := by
  have hB : Below w.heap.size w (((w.alloc (.cells #[v0, v1, v2, v3, v4, .slice a ms.length cap] 40)).alloc (.cells #[.string n] 9)).alloc (.cells #[.string d] 9)) :=
    (((Below.refl _ _).alloc (Nat.le_refl _) _).alloc (by simp) _).alloc (by simp; omega) _
  have HI := Lib.hid (IndexM S ms a cap n d (((w.alloc (.cells #[v0, v1, v2, v3, v4, .slice a ms.length cap] 40)).alloc (.cells #[.string n] 9)).alloc (.cells #[.string d] 9)) (w.heap.size + 1) (w.heap.size + 1 + 1)
    (hm.alike (Alike.of_below hB hS)) (fun k hk => Nat.lt_of_lt_of_le (hS k hk) hB.size)
    (alloc_old (by simp))
    (by have := World.cell?_alloc_new ((w.alloc (.cells #[v0, v1, v2, v3, v4, .slice a ms.length cap] 40)).alloc (.cells #[.string n] 9)) #[.string d] 9 0; simpa using this))
  have HB := Lib.hid hB
  clear hB hm hS
  go_enter Tryd.func61, Tryd.ntmps61
  go_wp2_with fail
  refine HI.out.mono ?_
  rintro e w1 ⟨rfl, hb1⟩
  have HB1 : Hid (Below w.heap.size w w1) := Lib.hid (HB.out.trans (hb1.mono HB.out.size))
  go_wp2
  go_ret
  exact ⟨rfl, HB1.out⟩
end Go.Proofs.YtilckbljealhgaaDoor.Pr
/- Shapes: a class. -/
set_option maxRecDepth 100000
set_option maxHeartbeats 4000000
set_option linter.unusedVariables false
set_option linter.unusedSimpArgs false
namespace Go.Proofs.YtilckbljealhgaaDoor.Pr
open Go.RowKit Bs Hi

/-- Is it an interface? -/
def isIfc (c : ClsM) : Bool := bits .and .i64 c.flags 512 != 0
def methOk (c : ClsM) (k : Nat) : Bool := match c.meths[k]? with
  | some m => methodB m (isIfc c) && decide (findM c.meths m.name m.desc = k)
  | none => true
/-- Is the class sound? -/
def chk (c : ClsM) : Bool := decide (c.meths.length ≤ 40) && decide (c.ifaces.length ≤ 20) && headerB c && (List.range c.meths.length).all (methOk c)

end Go.Proofs.YtilckbljealhgaaDoor.Pr
