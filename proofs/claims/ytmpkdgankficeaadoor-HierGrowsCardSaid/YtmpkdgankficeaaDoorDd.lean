/- What is asked of a world, one number at a time. -/
import Derived.Test.YtmpkdgankficeaaDoorDc
set_option maxRecDepth 100000
set_option maxHeartbeats 4000000
set_option linter.unusedVariables false
set_option linter.unusedSimpArgs false
namespace Go.Proofs.YtmpkdgankficeaaDoor.Hi
open Go.RowKit Bs

/-- The entry of a number. -/
def entAt (m : List EntM) (id : Int) : Option EntM := if 0 ≤ id then m[id.toNat]? else none
theorem entAt_some {m : List EntM} {id : Int} {e : EntM} (h : entAt m id = some e) : ∃ i : Nat, id = i ∧ ∃ h : i < m.length, m[i] = e := by
  unfold entAt at h
  split at h
  · obtain ⟨h1, h2⟩ := List.getElem?_eq_some_iff.1 h
    exact ⟨id.toNat, by omega, h1, h2⟩
  · cases h
theorem entAt_none {m : List EntM} {id : Int} (h : entAt m id = none) : id < 0 ∨ (m.length : Int) ≤ id := by
  unfold entAt at h
  split at h
  · have := List.getElem?_eq_none_iff.1 h
    omega
  · omega
theorem entAt_nat {m : List EntM} {i : Nat} (h : i < m.length) : entAt m (i : Int) = some m[i] := by
  unfold entAt
  rw [if_pos (by omega)]
  simp [h]

/-- An entry's cells. -/
structure Ent9 (S : Nat → Prop) (w : World) (be : Nat) (e : EntM) (ia : Option Addr) (ic : Nat) (ma : Option Addr) (mc : Nat) (ca : Option Addr) (cc : Nat) : Prop where
  k0 : w.cell? ⟨be, 0, none⟩ = some (.string e.c.name)
  k1 : w.cell? ⟨be, 1, none⟩ = some (.string e.c.super)
  k2 : w.cell? ⟨be, 2, none⟩ = some (.slice ia e.c.ifaces.length ic)
  k3 : w.cell? ⟨be, 3, none⟩ = some (.int .i64 e.c.flags)
  k4 : w.cell? ⟨be, 4, none⟩ = some (.int .i64 e.c.loader)
  k5 : w.cell? ⟨be, 5, none⟩ = some (.slice ma e.c.meths.length mc)
  k6 : w.cell? ⟨be, 6, none⟩ = some (.int .i64 e.above)
  k7 : w.cell? ⟨be, 7, none⟩ = some (.int .i64 e.depth)
  k8 : w.cell? ⟨be, 8, none⟩ = some (.slice ca e.closure.length cc)
  cls : ClsIs S w [.string e.c.name, .string e.c.super, .slice ia e.c.ifaces.length ic, .int .i64 e.c.flags, .int .i64 e.c.loader, .slice ma e.c.meths.length mc] e.c
  clo : IntSl S w (.slice ca e.closure.length cc) e.closure

theorem EntAt.nine {S : Nat → Prop} {w : World} {be : Nat} {e : EntM} (h : EntAt S w (.pointer (some ⟨be, 0, none⟩)) e) : ∃ ia ic ma mc ca cc, Ent9 S w be e ia ic ma mc ca cc := by
  obtain ⟨be', cs, cv, e1, e2, e3, e4, hcl, k6, k7, k8, hclo⟩ := h
  injection e1 with e1
  injection e1 with e1
  injection e1 with e1
  subst e1
  have hcl' := hcl
  obtain ⟨iv, mv, rfl, q1, q2, q3, q4, q5, q6⟩ := hcl'
  obtain ⟨ia, ic, rfl, _⟩ := id q3
  obtain ⟨ma, mc, rfl, _⟩ := id q6
  obtain ⟨ca, cc, rfl, _⟩ := id hclo
  have k0 := e4 0 (by simp)
  have k1 := e4 1 (by simp)
  have k2 := e4 2 (by simp)
  have k3 := e4 3 (by simp)
  have k4 := e4 4 (by simp)
  have k5 := e4 5 (by simp)
  simp only [List.getElem_cons_zero, List.getElem_cons_succ] at k0 k1 k2 k3 k4 k5
  exact ⟨ia, ic, ma, mc, ca, cc, k0, k1, k2, k3, k4, k5, k6, k7, k8, hcl, hclo⟩

theorem at_in {S : Nat → Prop} {bw : Nat} {w : World} {m : List EntM} (h : HW S bw w m) {id : Int} {e : EntM} (he : entAt m id = some e) :
    ∃ be ia ic ma mc ca cc, Ent9 S w be e ia ic ma mc ca cc ∧ Calls Tryd.prog 38 #[.pointer (some ⟨bw, 0, none⟩), .int .i64 id] w fun r w' => r = .returned (.pointer (some ⟨be, 0, none⟩)) ∧ w = w' := by
  obtain ⟨i, rfl, hi, rfl⟩ := entAt_some he
  obtain ⟨ga, cap, ha, hall⟩ := h.all
  obtain ⟨g, be, rfl, hbe, hea⟩ := hall i hi
  obtain ⟨ia, ic, ma, mc, ca, cc, h9⟩ := hea.nine
  refine ⟨be, ia, ic, ma, mc, ca, cc, h9, ?_⟩
  have h1 : decide ((i : Int) < 0) = false := decide_eq_false (by omega)
  have h2 : decide ((m.length : Int) ≤ (i : Int)) = false := decide_eq_false (by omega)
  have h3 : (i : Int) < (m.length : Int) := by omega
  clear hea h9 hall he h
  go_enter Tryd.func38, Tryd.ntmps38
  go_wp2
  go_ret
  exact ⟨rfl, rfl⟩

theorem at_out {S : Nat → Prop} {bw : Nat} {w : World} {m : List EntM} (h : HW S bw w m) {id : Int} (he : entAt m id = none) :
    Calls Tryd.prog 38 #[.pointer (some ⟨bw, 0, none⟩), .int .i64 id] w fun r w' => r = .returned (.pointer none) ∧ w = w' := by
  obtain ⟨ga, cap, ha, hall⟩ := h.all
  clear hall
  by_cases h1 : id < 0
  · have h1' : decide (id < 0) = true := decide_eq_true h1
    go_enter Tryd.func38, Tryd.ntmps38
    go_wp2
    go_ret
    exact ⟨rfl, rfl⟩
  · have h1' : decide (id < 0) = false := decide_eq_false h1
    have h2 : decide ((m.length : Int) ≤ id) = true := decide_eq_true (by have := entAt_none he; omega)
    go_enter Tryd.func38, Tryd.ntmps38
    go_wp2
    go_ret
    exact ⟨rfl, rfl⟩

/-- The superclass's number and the error. -/
def superM (m : List EntM) (id : Int) : Int × Int := match entAt m id with
  | none => (0, 3)
  | some e => if e.above < 0 then (0, 6) else (e.above, 0)
def depthM (m : List EntM) (id : Int) : Int × Int := match entAt m id with
  | none => (0, 3)
  | some e => (e.depth, 0)
def isIfaceM (m : List EntM) (id : Int) : Bool := match entAt m id with
  | none => false
  | some e => Pr.isIfc e.c
def sameM (m : List EntM) (a b : Int) : Bool := match entAt m a, entAt m b with
  | some e, some f => togB e.c.name f.c.name e.c.loader f.c.loader
  | _, _ => false
def findH (m : List EntM) (id : Int) (n d : ByteArray) : Int × Int := match entAt m id with
  | none => (0, 3)
  | some e => if Pr.findM e.c.meths n d < 0 then (0, 6) else (Pr.findM e.c.meths n d, 0)
def closureM (m : List EntM) (id : Int) : List Int × Int := match entAt m id with
  | none => ([], 3)
  | some e => (e.closure, 0)

theorem Super {S : Nat → Prop} {bw : Nat} {w : World} {m : List EntM} (h : HW S bw w m) (id : Int) :
    Calls Tryd.prog 14 #[.pointer (some ⟨bw, 0, none⟩), .int .i64 id] w fun r w' => r = .returned (.tuple #[.int .i64 (superM m id).1, .int .i64 (superM m id).2]) ∧ w = w' := by
  unfold superM
  cases he : entAt m id with
  | none =>
    go_enter Tryd.func14, Tryd.ntmps14
    go_wp2_with fail
    refine (at_out h he).mono ?_
    rintro e w' ⟨rfl, rfl⟩
    go_wp2
    go_ret2
    exact ⟨rfl, rfl⟩
  | some e =>
    obtain ⟨be, ia, ic, ma, mc, ca, cc, h9, hc⟩ := at_in h he
    have k6 := h9.k6
    clear h9
    by_cases hn : e.above < 0
    · have hn' : decide (e.above < 0) = true := decide_eq_true hn
      have HF : Hid ((if e.above < 0 then ((0 : Int), (6 : Int)) else (e.above, 0)) = (0, 6)) := Lib.hid (if_pos hn)
      go_enter Tryd.func14, Tryd.ntmps14
      go_wp2_with fail
      refine hc.mono ?_
      rintro _ w' ⟨rfl, rfl⟩
      go_wp2
      go_ret2
      exact ⟨by simp only [HF.out]; rfl, rfl⟩
    · have hn' : decide (e.above < 0) = false := decide_eq_false hn
      have HF : Hid ((if e.above < 0 then ((0 : Int), (6 : Int)) else (e.above, 0)) = (e.above, 0)) := Lib.hid (if_neg hn)
      go_enter Tryd.func14, Tryd.ntmps14
      go_wp2_with fail
      refine hc.mono ?_
      rintro _ w' ⟨rfl, rfl⟩
      go_wp2
      go_ret2
      exact ⟨by simp only [HF.out]; rfl, rfl⟩

theorem Depth {S : Nat → Prop} {bw : Nat} {w : World} {m : List EntM} (h : HW S bw w m) (id : Int) :
    Calls Tryd.prog 22 #[.pointer (some ⟨bw, 0, none⟩), .int .i64 id] w fun r w' => r = .returned (.tuple #[.int .i64 (depthM m id).1, .int .i64 (depthM m id).2]) ∧ w = w' := by
  unfold depthM
  cases he : entAt m id with
  | none =>
    go_enter Tryd.func22, Tryd.ntmps22
    go_wp2_with fail
    refine (at_out h he).mono ?_
    rintro e w' ⟨rfl, rfl⟩
    go_wp2
    go_ret2
    exact ⟨rfl, rfl⟩
  | some e =>
    obtain ⟨be, ia, ic, ma, mc, ca, cc, h9, hc⟩ := at_in h he
    have k7 := h9.k7
    clear h9
    go_enter Tryd.func22, Tryd.ntmps22
    go_wp2_with fail
    refine hc.mono ?_
    rintro _ w' ⟨rfl, rfl⟩
    go_wp2
    go_ret2
    exact ⟨rfl, rfl⟩

theorem IsIface {S : Nat → Prop} {bw : Nat} {w : World} {m : List EntM} (h : HW S bw w m) (id : Int) :
    Calls Tryd.prog 23 #[.pointer (some ⟨bw, 0, none⟩), .int .i64 id] w fun r w' => r = .returned (.bool (isIfaceM m id)) ∧ Below w.heap.size w w' := by
  unfold isIfaceM
  cases he : entAt m id with
  | none =>
    go_enter Tryd.func23, Tryd.ntmps23
    go_wp2_with fail
    refine (at_out h he).mono ?_
    rintro e w' ⟨rfl, rfl⟩
    go_wp2
    go_ret
    exact ⟨rfl, Below.refl _ _⟩
  | some e =>
    obtain ⟨be, ia, ic, ma, mc, ca, cc, h9, hc⟩ := at_in h he
    have k0 := h9.k0
    have k1 := h9.k1
    have k2 := h9.k2
    have k3 := h9.k3
    have k4 := h9.k4
    have k5 := h9.k5
    clear h9
    have HI := Lib.hid (Iface (.string e.c.name) (.string e.c.super) (.slice ia e.c.ifaces.length ic) (.int .i64 e.c.loader) (.slice ma e.c.meths.length mc) e.c.flags)
    have hI : (bits .and .i64 e.c.flags 512 != 0) = Pr.isIfc e.c := rfl
    rw [hI] at HI
    clear hI
    show Calls _ _ _ _ fun r w' => r = .returned (.bool (Pr.isIfc e.c)) ∧ _
    generalize Pr.isIfc e.c = bi at HI ⊢
    go_enter Tryd.func23, Tryd.ntmps23
    go_wp2_with fail
    refine hc.mono ?_
    rintro _ w' ⟨rfl, rfl⟩
    go_wp2_with fail
    refine (HI.out _).mono ?_
    rintro _ w' ⟨rfl, hb⟩
    go_wp2
    go_ret
    exact ⟨rfl, hb⟩
end Go.Proofs.YtmpkdgankficeaaDoor.Hi
