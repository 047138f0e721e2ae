/- Packages; one run-time package; a class by its number. -/
import Derived.Test.YtilckbljealhgaaDoorMC
import Derived.Test.YtilckbljealhgaaDoorMS
import Derived.Lib.LastIndexByte
import Derived.Deep.RegionHeld3
import Derived.WalkSmall
import Derived.Test.YtilckbljealhgaaDoorMI
import Derived.StillTactics
set_option maxRecDepth 100000
set_option maxHeartbeats 2000000
set_option linter.unusedVariables false
set_option linter.unusedSimpArgs false
namespace Go.Proofs.YtilckbljealhgaaDoor.Hi
open Go.RowKit Bs

/-- What stands ahead of the last '/'. -/
def pkgM (s : ByteArray) : ByteArray := s.extract 0 (Lib.lastIndexByte s 47).toNat

theorem Package (s : ByteArray) (hs : s.size < 4611686018427387904) (w : World) :
    Calls Tryd.prog 55 #[.string s] w fun e w' => e = .returned (.string (pkgM s)) ∧ w = w' := by
  have hb : (Lib.lastIndexByte s 47 = -1) ∨ ∃ i : Nat, i < s.size ∧ Lib.lastIndexByte s 47 = i := by
    rcases Lib.lastIndexByte_spec s 47 with ⟨h, _⟩ | ⟨i, h1, h2, _⟩
    · exact .inl h
    · exact .inr ⟨i, h1, h2⟩
  have HP : Hid (pkgM s = s.extract 0 (Lib.lastIndexByte s 47).toNat) := Lib.hid rfl
  have HL := Lib.hid (Tryd.strings_LastIndexByte s 47 hs)
  generalize Lib.lastIndexByte s 47 = l at hb HP HL
  rcases hb with rfl | ⟨i, hi, rfl⟩
  · have h0 : max (0 : Int) (-1) = 0 := by omega
    go_enter Tryd.func55, Tryd.ntmps55
    go_wp2_with fail
    refine (HL.out _).mono ?_
    rintro e _ ⟨rfl, rfl⟩
    have hx : s.extract 0 (-1 : Int).toNat = ByteArray.empty := by
      rw [show (-1 : Int).toNat = 0 from rfl]
      simp
    go_wp2
    go_ret
    exact ⟨by rw [HP.out, hx]; rfl, rfl⟩
  · have h0 : max (0 : Int) (i : Int) = i := by omega
    go_enter Tryd.func55, Tryd.ntmps55
    go_wp2_with fail
    refine (HL.out _).mono ?_
    rintro e _ ⟨rfl, rfl⟩
    have h1 : (i : Int) ≤ (s.size : Int) := by omega
    go_wp2
    go_ret
    exact ⟨by rw [HP.out]; rfl, rfl⟩

theorem Iface (v0 v1 v2 v4 v5 : Value) (f : Int) (w : World) :
    Calls Tryd.prog 56 #[.agg #[v0, v1, v2, .int .i64 f, v4, v5]] w fun e w' => e = .returned (.bool (bits .and .i64 f 512 != 0)) ∧ Below w.heap.size w w' := by
  go_enter Tryd.func56, Tryd.ntmps56
  go_wp2
  go_ret
  exact ⟨rfl, (Below.refl _ _).alloc (Nat.le_refl _) _⟩

/-- Are both of one run-time package? -/
def togB (n1 n2 : ByteArray) (l1 l2 : Int) : Bool := (l1 == l2) && ((pkgM n1).toList == (pkgM n2).toList)

end Go.Proofs.YtilckbljealhgaaDoor.Hi
/- A class above another, by its name. -/
set_option maxRecDepth 100000
set_option maxHeartbeats 8000000
set_option linter.unusedVariables false
set_option linter.unusedSimpArgs false
namespace Go.Proofs.YtilckbljealhgaaDoor.Hi
open Go.RowKit Bs

/-- The class of that number. -/
def clsAt (m : List EntM) (i : Nat) : ClsM := (m[i]?.map (·.c)).getD default
theorem clsAt_at {m : List EntM} {i : Nat} (h : i < m.length) : clsAt m i = m[i].c := by unfold clsAt; rw [List.getElem?_eq_getElem h]; rfl
/-- What keeps class p (of number i) from standing above c; 0: nothing. -/
def aboveE (p c : ClsM) (i : Nat) (want : Bool) : Int :=
  if (Pr.isIfc p != want || (!want && Pr.isIfc c && decide (i ≠ 0))) = true then 23
  else if (bits .and .i64 p.flags 1 == 0 && !togB c.name p.name c.loader p.loader) = true then 22 else 0
/-- The class above, by its name, and the error. -/
def aboveM (m : List EntM) (c : ClsM) (s : ByteArray) (want : Bool) : Int × Int := match nameIx m s with
  | none => (0, 20)
  | some i => if aboveE (clsAt m i) c i want = 0 then ((i : Int), 0) else (0, aboveE (clsAt m i) c i want)

end Go.Proofs.YtilckbljealhgaaDoor.Hi
/- A class arrives. -/
set_option maxRecDepth 100000
set_option maxHeartbeats 8000000
set_option linter.unusedVariables false
set_option linter.unusedSimpArgs false
namespace Go.Proofs.YtilckbljealhgaaDoor.Hi
open Go.RowKit Bs

/-- The first interface's error that isn't 0, or 0. -/
def ifcE (m : List EntM) (c : ClsM) : List ByteArray → Int
  | [] => 0
  | s :: r => if (aboveM m c s true).2 = 0 then ifcE m c r else (aboveM m c s true).2
/-- What keeps a class from arriving; 0: nothing. -/
def defE (m : List EntM) (c : ClsM) : Int :=
  if Pr.chk c = false then 1 else if 300 ≤ m.length then 5 else if (nameIx m c.name).isSome = true then 25
  else if (aboveM m c c.super false).2 ≠ 0 then (aboveM m c c.super false).2 else ifcE m c c.ifaces
def supOf (m : List EntM) (c : ClsM) : Int := (aboveM m c c.super false).1
def ifsOf (m : List EntM) (c : ClsM) : List Int := c.ifaces.map fun s => (aboveM m c s true).1
def entOf (m : List EntM) (c : ClsM) : EntM := putEnt m c (supOf m c) (ifsOf m c)
/-- The world behind a class that arrives. -/
def defM (m : List EntM) (c : ClsM) : List EntM := if defE m c = 0 then m ++ [entOf m c] else m
def defN (m : List EntM) (c : ClsM) : Int := if defE m c = 0 then (m.length : Int) else 0

theorem aboveE_cases (p c : ClsM) (i : Nat) (want : Bool) : aboveE p c i want = 0 ∨ aboveE p c i want = 22 ∨ aboveE p c i want = 23 := by
  unfold aboveE
  split
  · exact .inr (.inr rfl)
  · split
    · exact .inr (.inl rfl)
    · exact .inl rfl
theorem aboveM_ok {m : List EntM} {c : ClsM} {s : ByteArray} {want : Bool} (h : (aboveM m c s want).2 = 0) : ∃ i, nameIx m s = some i ∧ i < m.length ∧ (aboveM m c s want).1 = i ∧ aboveE (clsAt m i) c i want = 0 := by
  unfold aboveM at h ⊢
  cases hx : nameIx m s with
  | none => rw [hx] at h; simp at h
  | some i =>
    rw [hx] at h
    simp only at h ⊢
    by_cases e : aboveE (clsAt m i) c i want = 0
    · rw [if_pos e] at h ⊢
      exact ⟨i, rfl, nameIx_lt hx, rfl, e⟩
    · rw [if_neg e] at h
      exact absurd h e
theorem aboveM_fits {m : List EntM} {c : ClsM} {s : ByteArray} {want : Bool} (hl : m.length ≤ 300) : 0 ≤ (aboveM m c s want).1 ∧ (aboveM m c s want).1 ≤ 300 := by
  unfold aboveM
  cases hx : nameIx m s with
  | none => simp
  | some i =>
    have := nameIx_lt hx
    simp only
    split <;> simp <;> omega
theorem ifcE_all {m : List EntM} {c : ClsM} : ∀ {l : List ByteArray}, ifcE m c l = 0 → ∀ s ∈ l, (aboveM m c s true).2 = 0
  | [], _, s, hs => by cases hs
  | x :: r, h, s, hs => by
    unfold ifcE at h
    split at h
    · rename_i hx
      rcases List.mem_cons.1 hs with rfl | hs
      · exact hx
      · exact ifcE_all h s hs
    · rename_i hx
      exact absurd h hx

theorem chk_name {c : ClsM} (h : Pr.chk c = true) : c.name.size ≤ 60 := by
  unfold Pr.chk Pr.headerB Pr.headB Lf.validB at h
  simp only [Bool.and_eq_true, decide_eq_true_eq] at h
  have := h.1.2.1.1.1.1.1
  simp at this
  exact this.1

/-- A lookup with ok, as one step of a region that draws its order and turns nothing. -/
theorem wpStill_look {P : Program} {ops : Array Oper} {w : World} {Q : Act → Prop} {a : Act} {o : Oper} {rest : List Oper} (hg : o.guard = none) (m x : Operand) (t : TypeId) (hop : o.op = Op.lookup t m x true)
    {mv xv v : Value} (hm : a.eval m = mv) (hx : a.eval x = xv) (hrun : (Instr.lookup t mv xv true).run P w = .ok v w) (h : wpStill P ops w Q rest (a.put o.dst v)) : wpStill P ops w Q (o :: rest) a := by
  refine wpStill_step fun K hK => ?_
  have hw : Region.wanted o (yielded ops a.tmps) = true := by simp [Region.wanted, hg]
  rw [if_pos hw]
  unfold Oper.still
  simp only [execOp, hop, hm, hx]
  rw [Sem.run_bind, hrun]
  simp only [Result.andThen]
  exact ⟨rfl, hK _ h⟩

theorem info_int' : (Tryd.prog.info? 3).map (fun i => (i.zero, i.size, i.bytes)) = some (some (.int .i64 0), 1, 8) := by kernel_rfl

end Go.Proofs.YtilckbljealhgaaDoor.Hi
