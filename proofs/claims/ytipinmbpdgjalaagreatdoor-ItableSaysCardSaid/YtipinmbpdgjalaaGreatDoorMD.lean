/- Packages; one run-time package; a class by its number. -/
import Derived.Test.YtipinmbpdgjalaaGreatDoorMC
import Derived.Test.YtipinmbpdgjalaaGreatDoorMS
import Derived.Lib.LastIndexByte
import Derived.Deep.RegionHeld3
import Derived.WalkSmall
import Derived.Test.YtipinmbpdgjalaaGreatDoorMI
import Derived.StillTactics
set_option maxRecDepth 100000
set_option maxHeartbeats 2000000
set_option linter.unusedVariables false
set_option linter.unusedSimpArgs false
namespace Go.Proofs.YtipinmbpdgjalaaGreatDoor.Hi
open Go.RowKit Bs

/-- What stands ahead of the last '/'. -/
def pkgM (s : ByteArray) : ByteArray := s.extract 0 (Lib.lastIndexByte s 47).toNat

theorem Package (s : ByteArray) (hs : s.size < 4611686018427387904) (w : World) :
    Calls Tryz.prog 108 #[.string s] w fun e w' => e = .returned (.string (pkgM s)) ∧ w = w' := by
  have hb : (Lib.lastIndexByte s 47 = -1) ∨ ∃ i : Nat, i < s.size ∧ Lib.lastIndexByte s 47 = i := by
    rcases Lib.lastIndexByte_spec s 47 with ⟨h, _⟩ | ⟨i, h1, h2, _⟩
    · exact .inl h
    · exact .inr ⟨i, h1, h2⟩
  have HP : Hid (pkgM s = s.extract 0 (Lib.lastIndexByte s 47).toNat) := Lib.hid rfl
  have HL := Lib.hid (Tryz.strings_LastIndexByte s 47 hs)
  generalize Lib.lastIndexByte s 47 = l at hb HP HL
  rcases hb with rfl | ⟨i, hi, rfl⟩
  · have h0 : max (0 : Int) (-1) = 0 := by omega
    go_enter Tryz.func108, Tryz.ntmps108
    go_wp2_with fail
    refine (HL.out _).mono ?_
    rintro e _ ⟨rfl, rfl⟩
    have hx : s.extract 0 (-1 : Int).toNat = ByteArray.empty := by
      rw [show (-1 : Int).toNat = 0 from rfl]
      simp
    go_wp2
    go_ret
    exact ⟨by rw [HP.out, hx]; rfl, rfl⟩
  · have h0 : max (0 : Int) (i : Int) = i := by omega
    go_enter Tryz.func108, Tryz.ntmps108
    go_wp2_with fail
    refine (HL.out _).mono ?_
    rintro e _ ⟨rfl, rfl⟩
    have h1 : (i : Int) ≤ (s.size : Int) := by omega
    go_wp2
    go_ret
    exact ⟨by rw [HP.out]; rfl, rfl⟩

theorem Iface (v0 v1 v2 v4 v5 : Value) (f : Int) (w : World) :
    Calls Tryz.prog 47 #[.agg #[v0, v1, v2, .int .i64 f, v4, v5]] w fun e w' => e = .returned (.bool (bits .and .i64 f 512 != 0)) ∧ Below w.heap.size w w' := by
  go_enter Tryz.func47, Tryz.ntmps47
  go_wp2
  go_ret
  exact ⟨rfl, (Below.refl _ _).alloc (Nat.le_refl _) _⟩

/-- Are both of one run-time package? -/
def togB (n1 n2 : ByteArray) (l1 l2 : Int) : Bool := (l1 == l2) && ((pkgM n1).toList == (pkgM n2).toList)

theorem Together (n1 n2 : ByteArray) (l1 l2 : Int) (v1 v2 v3 v5 u1 u2 u3 u5 : Value) (w : World) (h1 : n1.size < 4611686018427387904) (h2 : n2.size < 4611686018427387904) :
    Calls Tryz.prog 87 #[.agg #[.string n1, v1, v2, v3, .int .i64 l1, v5], .agg #[.string n2, u1, u2, u3, .int .i64 l2, u5]] w fun e w' => e = .returned (.bool (togB n1 n2 l1 l2)) ∧ Below w.heap.size w w' := by
  have HB := Lib.hid (((Below.refl w.heap.size w).alloc (Nat.le_refl _) (.cells #[.string n1, v1, v2, v3, .int .i64 l1, v5] 26)).alloc (by simp) (.cells #[.string n2, u1, u2, u3, .int .i64 l2, u5] 26))
  have HP1 := Lib.hid (Package n1 h1)
  have HP2 := Lib.hid (Package n2 h2)
  have HT : Hid (togB n1 n2 l1 l2 = ((l1 == l2) && ((pkgM n1).toList == (pkgM n2).toList))) := Lib.hid rfl
  have hc0 : (((w.alloc (.cells #[.string n1, v1, v2, v3, .int .i64 l1, v5] 26)).alloc (.cells #[.string n2, u1, u2, u3, .int .i64 l2, u5] 26))).cell? ⟨w.heap.size, 0, none⟩ = some (.string n1) := alloc_old (World.cell?_alloc_new ..)
  have hc4 : (((w.alloc (.cells #[.string n1, v1, v2, v3, .int .i64 l1, v5] 26)).alloc (.cells #[.string n2, u1, u2, u3, .int .i64 l2, u5] 26))).cell? ⟨w.heap.size, 4, none⟩ = some (.int .i64 l1) := alloc_old (World.cell?_alloc_new ..)
  have hd : ∀ j : Nat, (((w.alloc (.cells #[.string n1, v1, v2, v3, .int .i64 l1, v5] 26)).alloc (.cells #[.string n2, u1, u2, u3, .int .i64 l2, u5] 26))).cell? ⟨w.heap.size + 1, j, none⟩ = (#[Value.string n2, u1, u2, u3, .int .i64 l2, u5])[j]? := fun j => by
    have := World.cell?_alloc_new (w.alloc (.cells #[.string n1, v1, v2, v3, .int .i64 l1, v5] 26)) #[.string n2, u1, u2, u3, .int .i64 l2, u5] 26 j
    rw [World.size_alloc] at this
    exact this
  have hd0 := hd 0
  have hd4 := hd 4
  have e1 : (#[Value.string n2, u1, u2, u3, .int .i64 l2, u5])[0]? = some (.string n2) := rfl
  have e2 : (#[Value.string n2, u1, u2, u3, .int .i64 l2, u5])[4]? = some (.int .i64 l2) := rfl
  rw [e1] at hd0
  rw [e2] at hd4
  clear hd e1 e2
  obtain ⟨y, hy⟩ : ∃ y, (l1 == l2) = y := ⟨_, rfl⟩
  rw [hy] at HT
  generalize pkgM n1 = p1 at HP1 HT
  generalize pkgM n2 = p2 at HP2 HT
  obtain ⟨y2, hy2⟩ : ∃ y2, (p1.toList == p2.toList) = y2 := ⟨_, rfl⟩
  rw [hy2] at HT
  cases y
  · go_enter Tryz.func87, Tryz.ntmps87
    go_wp2_with fail
    go_quiet (fail)
    go_wp2
    go_ret
    exact ⟨by rw [HT.out]; rfl, below_drewN HB.out _⟩
  · go_enter Tryz.func87, Tryz.ntmps87
    go_wp2_with fail
    go_region_held3 (fun w' => w'.cell? ⟨w.heap.size, 0, none⟩ = some (.string n1) ∧ w'.cell? ⟨w.heap.size, 4, none⟩ = some (.int .i64 l1) ∧ w'.cell? ⟨w.heap.size + 1, 0, none⟩ = some (.string n2) ∧ w'.cell? ⟨w.heap.size + 1, 4, none⟩ = some (.int .i64 l2))
      (first | exact ⟨hc0, hc4, hd0, hd4⟩)
      (first | (go_at_call 108; refine (HP1.out _).mono ?_; rintro e _ ⟨rfl, rfl⟩) | (go_at_call 108; refine (HP2.out _).mono ?_; rintro e _ ⟨rfl, rfl⟩))
    go_wp2
    go_ret
    exact ⟨by rw [HT.out]; rfl, HB.out.drew⟩
end Go.Proofs.YtipinmbpdgjalaaGreatDoor.Hi
/- A class above another, by its name. -/
set_option maxRecDepth 100000
set_option maxHeartbeats 8000000
set_option linter.unusedVariables false
set_option linter.unusedSimpArgs false
namespace Go.Proofs.YtipinmbpdgjalaaGreatDoor.Hi
open Go.RowKit Bs

/-- The class of that number. -/
def clsAt (m : List EntM) (i : Nat) : ClsM := (m[i]?.map (·.c)).getD default
theorem clsAt_at {m : List EntM} {i : Nat} (h : i < m.length) : clsAt m i = m[i].c := by unfold clsAt; rw [List.getElem?_eq_getElem h]; rfl
/-- What keeps class p (of number i) from standing above c; 0: nothing. -/
def aboveE (p c : ClsM) (i : Nat) (want : Bool) : Int :=
  if (Pr.isIfc p != want || (!want && Pr.isIfc c && decide (i ≠ 0))) = true then 23
  else if (bits .and .i64 p.flags 1 == 0 && !togB c.name p.name c.loader p.loader) = true then 22 else 0
/-- The class above, by its name, and the error. -/
def aboveM (m : List EntM) (c : ClsM) (s : ByteArray) (want : Bool) : Int × Int := match nameIx m s with
  | none => (0, 20)
  | some i => if aboveE (clsAt m i) c i want = 0 then ((i : Int), 0) else (0, aboveE (clsAt m i) c i want)

theorem above {S : Nat → Prop} {bw : Nat} {w : World} {m : List EntM} (h : HW S bw w m) (c : ClsM) (v1 v2 v5 : Value) (s : ByteArray) (want : Bool) (hs : s.size ≤ maxLen) (hc : c.name.size ≤ 1000) (hm : ∀ e ∈ m, e.c.name.size ≤ 1000) (hS : ∀ k, S k → k < w.heap.size) :
    Calls Tryz.prog 50 #[.pointer (some ⟨bw, 0, none⟩), .agg #[.string c.name, v1, v2, .int .i64 c.flags, .int .i64 c.loader, v5], .string s, .bool want] w fun e w' => e = .returned (.tuple #[.int .i64 (aboveM m c s want).1, .int .i64 (aboveM m c s want).2]) ∧ Below w.heap.size w w' := by
  obtain ⟨w0, hw0⟩ : ∃ w0, w0 = w.alloc (.cells #[.string c.name, v1, v2, .int .i64 c.flags, .int .i64 c.loader, v5] 26) := ⟨_, rfl⟩
  have hb0 : Below w.heap.size w w0 := by rw [hw0]; exact (Below.refl _ _).alloc (Nat.le_refl _) _
  have hce : ∀ j : Nat, w0.cell? ⟨w.heap.size, j, none⟩ = (#[Value.string c.name, v1, v2, .int .i64 c.flags, .int .i64 c.loader, v5])[j]? := fun j => by rw [hw0]; exact World.cell?_alloc_new ..
  have HCE := Lib.hid hce
  have HB0 := Lib.hid hb0
  have h' := h.alike hb0.size (Alike.of_below hb0 hS)
  clear hce h
  obtain ⟨T, va, bm, ps, D, h1, h2, h3, h4, h5⟩ := id h'
  have hcn := h1.byName
  have hr := h1.reads s
  have HM := Lib.hid h1.map
  clear h1 hb0
  rw [hw0] at hcn
  cases hx : nameIx m s with
  | some i =>
    have hlt := nameIx_lt hx
    have h1 : Maps.has D (keyL s) = true := by rw [hr.1, hx]; rfl
    have HR := Lib.hid (hr.2 i hx (.lit (.int .i64 0)))
    have HA : Hid (aboveM m c s want = if aboveE m[i].c c i want = 0 then ((i : Int), 0) else (0, aboveE m[i].c c i want)) := Lib.hid (by unfold aboveM; rw [hx]; simp only [clsAt_at hlt])
    have HN2 : Hid (m[i].c.name.size ≤ 1000) := Lib.hid (hm _ (List.getElem_mem hlt))
    obtain ⟨ga, cap, ha, hall⟩ := h'.all
    obtain ⟨g, be, rfl, hbe, he⟩ := hall i hlt
    obtain ⟨be', cs, cv, e1, e2, e3, e4, ⟨iv, mv, rfl, q1, q2, q3, q4, q5, q6⟩, _⟩ := he
    injection e1 with e1
    injection e1 with e1
    injection e1 with e1
    subst e1
    obtain ⟨ia, ic, rfl, _⟩ := id q3
    obtain ⟨ma, mc, rfl, _⟩ := id q6
    rw [hw0] at ha hbe e4
    have k0 := e4 0 (by simp)
    have k1 := e4 1 (by simp)
    have k2 := e4 2 (by simp)
    have k3 := e4 3 (by simp)
    have k4 := e4 4 (by simp)
    have k5 := e4 5 (by simp)
    simp only [List.getElem_cons_zero, List.getElem_cons_succ] at k0 k1 k2 k3 k4 k5
    have hlt' : (i : Int) < (m.length : Int) := by omega
    have HM' : Hid ((w.alloc (.cells #[.string c.name, v1, v2, .int .i64 c.flags, .int .i64 c.loader, v5] 26)).ownsMap Tryz.prog 9 (plainElem Tryz.prog 3) bm m.length D) := by rw [← hw0]; exact HM
    clear hr hx hall e4 q3 q6 h' HM
    generalize m[i].c = p at *
    go_enter Tryz.func50, Tryz.ntmps50
    go_wp2_with (first | (at_lookup; refine wpList_lookup_own_ok_int _ rfl _ _ 100 rfl 9 3 .i64 (Maps.string_keyed Tryz.underlying9) Tryz.underlying100 Tryz.underlying3 (Tryz.zeroValue3 _) bm m.length D rfl HM'.out _ (keyL s) rfl (WideMaps.keyOf_string_mk Tryz.underlying9 hs) ?_; rw [h1]; intro c hat hwc; obtain rfl := int_lit (hat.symm.trans HR.out)))
    have hbw : Below w.heap.size w ((w.alloc (.cells #[Value.string c.name, v1, v2, .int .i64 c.flags, .int .i64 c.loader, v5] 26)).alloc (.cells #[Value.string p.name, .string p.super, .slice ia p.ifaces.length ic, .int .i64 p.flags, .int .i64 p.loader, .slice ma p.meths.length mc] 26)) := (((Below.refl _ _).alloc (Nat.le_refl _) _).alloc (by simp) _)
    have hcell : (((w.alloc (.cells #[Value.string c.name, v1, v2, .int .i64 c.flags, .int .i64 c.loader, v5] 26)).alloc (.cells #[Value.string p.name, .string p.super, .slice ia p.ifaces.length ic, .int .i64 p.flags, .int .i64 p.loader, .slice ma p.meths.length mc] 26)).cell? ⟨w.heap.size, 0, none⟩ = some (.string c.name) ∧ ((w.alloc (.cells #[Value.string c.name, v1, v2, .int .i64 c.flags, .int .i64 c.loader, v5] 26)).alloc (.cells #[Value.string p.name, .string p.super, .slice ia p.ifaces.length ic, .int .i64 p.flags, .int .i64 p.loader, .slice ma p.meths.length mc] 26)).cell? ⟨w.heap.size, 1, none⟩ = some (v1) ∧ ((w.alloc (.cells #[Value.string c.name, v1, v2, .int .i64 c.flags, .int .i64 c.loader, v5] 26)).alloc (.cells #[Value.string p.name, .string p.super, .slice ia p.ifaces.length ic, .int .i64 p.flags, .int .i64 p.loader, .slice ma p.meths.length mc] 26)).cell? ⟨w.heap.size, 2, none⟩ = some (v2) ∧ ((w.alloc (.cells #[Value.string c.name, v1, v2, .int .i64 c.flags, .int .i64 c.loader, v5] 26)).alloc (.cells #[Value.string p.name, .string p.super, .slice ia p.ifaces.length ic, .int .i64 p.flags, .int .i64 p.loader, .slice ma p.meths.length mc] 26)).cell? ⟨w.heap.size, 3, none⟩ = some (.int .i64 c.flags) ∧ ((w.alloc (.cells #[Value.string c.name, v1, v2, .int .i64 c.flags, .int .i64 c.loader, v5] 26)).alloc (.cells #[Value.string p.name, .string p.super, .slice ia p.ifaces.length ic, .int .i64 p.flags, .int .i64 p.loader, .slice ma p.meths.length mc] 26)).cell? ⟨w.heap.size, 4, none⟩ = some (.int .i64 c.loader) ∧ ((w.alloc (.cells #[Value.string c.name, v1, v2, .int .i64 c.flags, .int .i64 c.loader, v5] 26)).alloc (.cells #[Value.string p.name, .string p.super, .slice ia p.ifaces.length ic, .int .i64 p.flags, .int .i64 p.loader, .slice ma p.meths.length mc] 26)).cell? ⟨w.heap.size, 5, none⟩ = some (v5) ∧ ((w.alloc (.cells #[Value.string c.name, v1, v2, .int .i64 c.flags, .int .i64 c.loader, v5] 26)).alloc (.cells #[Value.string p.name, .string p.super, .slice ia p.ifaces.length ic, .int .i64 p.flags, .int .i64 p.loader, .slice ma p.meths.length mc] 26)).cell? ⟨w.heap.size + 1, 0, none⟩ = some (.string p.name) ∧ ((w.alloc (.cells #[Value.string c.name, v1, v2, .int .i64 c.flags, .int .i64 c.loader, v5] 26)).alloc (.cells #[Value.string p.name, .string p.super, .slice ia p.ifaces.length ic, .int .i64 p.flags, .int .i64 p.loader, .slice ma p.meths.length mc] 26)).cell? ⟨w.heap.size + 1, 1, none⟩ = some (.string p.super) ∧ ((w.alloc (.cells #[Value.string c.name, v1, v2, .int .i64 c.flags, .int .i64 c.loader, v5] 26)).alloc (.cells #[Value.string p.name, .string p.super, .slice ia p.ifaces.length ic, .int .i64 p.flags, .int .i64 p.loader, .slice ma p.meths.length mc] 26)).cell? ⟨w.heap.size + 1, 2, none⟩ = some (.slice ia p.ifaces.length ic) ∧ ((w.alloc (.cells #[Value.string c.name, v1, v2, .int .i64 c.flags, .int .i64 c.loader, v5] 26)).alloc (.cells #[Value.string p.name, .string p.super, .slice ia p.ifaces.length ic, .int .i64 p.flags, .int .i64 p.loader, .slice ma p.meths.length mc] 26)).cell? ⟨w.heap.size + 1, 3, none⟩ = some (.int .i64 p.flags) ∧ ((w.alloc (.cells #[Value.string c.name, v1, v2, .int .i64 c.flags, .int .i64 c.loader, v5] 26)).alloc (.cells #[Value.string p.name, .string p.super, .slice ia p.ifaces.length ic, .int .i64 p.flags, .int .i64 p.loader, .slice ma p.meths.length mc] 26)).cell? ⟨w.heap.size + 1, 4, none⟩ = some (.int .i64 p.loader) ∧ ((w.alloc (.cells #[Value.string c.name, v1, v2, .int .i64 c.flags, .int .i64 c.loader, v5] 26)).alloc (.cells #[Value.string p.name, .string p.super, .slice ia p.ifaces.length ic, .int .i64 p.flags, .int .i64 p.loader, .slice ma p.meths.length mc] 26)).cell? ⟨w.heap.size + 1, 5, none⟩ = some (.slice ma p.meths.length mc)) := by
      have hp : ∀ j : Nat, ((w.alloc (.cells #[Value.string c.name, v1, v2, .int .i64 c.flags, .int .i64 c.loader, v5] 26)).alloc (.cells #[Value.string p.name, .string p.super, .slice ia p.ifaces.length ic, .int .i64 p.flags, .int .i64 p.loader, .slice ma p.meths.length mc] 26)).cell? ⟨w.heap.size + 1, j, none⟩ = (#[Value.string p.name, .string p.super, .slice ia p.ifaces.length ic, .int .i64 p.flags, .int .i64 p.loader, .slice ma p.meths.length mc])[j]? := fun j => by
        have := World.cell?_alloc_new (w.alloc (.cells #[Value.string c.name, v1, v2, .int .i64 c.flags, .int .i64 c.loader, v5] 26)) #[Value.string p.name, .string p.super, .slice ia p.ifaces.length ic, .int .i64 p.flags, .int .i64 p.loader, .slice ma p.meths.length mc] 26 j
        rw [World.size_alloc] at this
        exact this
      exact ⟨alloc_old (World.cell?_alloc_new ..), alloc_old (World.cell?_alloc_new ..), alloc_old (World.cell?_alloc_new ..), alloc_old (World.cell?_alloc_new ..), alloc_old (World.cell?_alloc_new ..), alloc_old (World.cell?_alloc_new ..), hp 0, hp 1, hp 2, hp 3, hp 4, hp 5⟩
    have HBW := Lib.hid hbw
    have HCELL := Lib.hid hcell
    have HC12 : Hid (∀ w' : World, Below ((w.alloc (.cells #[Value.string c.name, v1, v2, .int .i64 c.flags, .int .i64 c.loader, v5] 26)).alloc (.cells #[Value.string p.name, .string p.super, .slice ia p.ifaces.length ic, .int .i64 p.flags, .int .i64 p.loader, .slice ma p.meths.length mc] 26)).heap.size ((w.alloc (.cells #[Value.string c.name, v1, v2, .int .i64 c.flags, .int .i64 c.loader, v5] 26)).alloc (.cells #[Value.string p.name, .string p.super, .slice ia p.ifaces.length ic, .int .i64 p.flags, .int .i64 p.loader, .slice ma p.meths.length mc] 26)) w' → w'.cell? ⟨w.heap.size, 0, none⟩ = some (.string c.name) ∧ w'.cell? ⟨w.heap.size, 1, none⟩ = some (v1) ∧ w'.cell? ⟨w.heap.size, 2, none⟩ = some (v2) ∧ w'.cell? ⟨w.heap.size, 3, none⟩ = some (.int .i64 c.flags) ∧ w'.cell? ⟨w.heap.size, 4, none⟩ = some (.int .i64 c.loader) ∧ w'.cell? ⟨w.heap.size, 5, none⟩ = some (v5) ∧ w'.cell? ⟨w.heap.size + 1, 0, none⟩ = some (.string p.name) ∧ w'.cell? ⟨w.heap.size + 1, 1, none⟩ = some (.string p.super) ∧ w'.cell? ⟨w.heap.size + 1, 2, none⟩ = some (.slice ia p.ifaces.length ic) ∧ w'.cell? ⟨w.heap.size + 1, 3, none⟩ = some (.int .i64 p.flags) ∧ w'.cell? ⟨w.heap.size + 1, 4, none⟩ = some (.int .i64 p.loader) ∧ w'.cell? ⟨w.heap.size + 1, 5, none⟩ = some (.slice ma p.meths.length mc)) := Lib.hid fun w' hb => by
      obtain ⟨x0, x1, x2, x3, x4, x5, x6, x7, x8, x9, x10, x11⟩ := HCELL.out
      exact ⟨below_cell' hb x0, below_cell' hb x1, below_cell' hb x2, below_cell' hb x3, below_cell' hb x4, below_cell' hb x5, below_cell' hb x6, below_cell' hb x7, below_cell' hb x8, below_cell' hb x9, below_cell' hb x10, below_cell' hb x11⟩
    clear hcell hbw
    have HAE : Hid (aboveE p c i want = if (Pr.isIfc p != want || (!want && Pr.isIfc c && decide (i ≠ 0))) = true then 23 else if (bits .and .i64 p.flags 1 == 0 && !togB c.name p.name c.loader p.loader) = true then 22 else 0) := Lib.hid rfl
    have hfi : (bits .and .i64 p.flags 512 != 0) = Pr.isIfc p := rfl
    have hfc : (bits .and .i64 c.flags 512 != 0) = Pr.isIfc c := rfl
    have HIP := Lib.hid (Iface (.string p.name) (.string p.super) (.slice ia p.ifaces.length ic) (.int .i64 p.loader) (.slice ma p.meths.length mc) p.flags)
    have HIC := Lib.hid (Iface (.string c.name) v1 v2 (.int .i64 c.loader) v5 c.flags)
    rw [hfi] at HIP
    rw [hfc] at HIC
    have HT := Lib.hid (fun w' => Together c.name p.name c.loader p.loader v1 v2 (.int .i64 c.flags) v5 (.string p.super) (.slice ia p.ifaces.length ic) (.int .i64 p.flags) (.slice ma p.meths.length mc) w' (by omega) (by have := HN2.out; omega))
    clear hfi hfc
    generalize Pr.isIfc p = fi at HIP HAE
    generalize Pr.isIfc c = fc at HIC HAE
    generalize togB c.name p.name c.loader p.loader = tg at HT HAE
    obtain ⟨yp, hyp⟩ : ∃ y, (bits .and .i64 p.flags 1 == 0) = y := ⟨_, rfl⟩
    rw [hyp] at HAE
    generalize aboveE p c i want = ae at HAE HA
    refine (HIP.out _).mono ?_
    rintro e w1 ⟨rfl, hb1⟩
    have HB1 : Hid (Below w.heap.size w w1) := Lib.hid (HBW.out.trans (hb1.mono HBW.out.size))
    have HL1 := Lib.hid hb1
    clear hb1 k0 k1 k2 k3 k4 k5 ha hbe hcn HIP HM' HR
    by_cases hmis : fi = want
    case neg =>
      have G : Hid (aboveM m c s want = (0, 23)) := Lib.hid (by
        have : ae = 23 := by rw [HAE.out, if_pos]; cases fi <;> cases want <;> simp_all
        rw [HA.out, this]; rfl)
      have hne : (fi != want) = true := by cases fi <;> cases want <;> simp_all
      cases fi <;> cases want <;> first | exact absurd rfl hmis | skip
      all_goals
        go_wp2
        go_ret2
        exact ⟨by rw [G.out]; rfl, HB1.out⟩
    subst hmis
    cases fi
    · obtain ⟨x0, x1, x2, x3, x4, x5, x6, x7, x8, x9, x10, x11⟩ := HC12.out _ HL1.out
      go_wp2_with fail
      refine (HIC.out _).mono ?_
      rintro e w2 ⟨rfl, hb2⟩
      have HB2 : Hid (Below w.heap.size w w2) := Lib.hid (HB1.out.trans (hb2.mono HB1.out.size))
      have HL2 := Lib.hid (HL1.out.trans (hb2.mono HL1.out.size))
      clear hb2 x0 x1 x2 x3 x4 x5 x6 x7 x8 x9 x10 x11
      cases fc
      · have HH : Hid True := Lib.hid trivial
        obtain ⟨x0, x1, x2, x3, x4, x5, x6, x7, x8, x9, x10, x11⟩ := HC12.out _ HL2.out
        cases yp
        · have G : Hid (aboveM m c s _ = ((i : Int), 0)) := Lib.hid (by
            have : ae = 0 := by rw [HAE.out]; simp [HH.out]
            rw [HA.out, this]; rfl)
          go_wp2
          go_ret2
          exact ⟨by rw [G.out]; rfl, HB2.out⟩
        · go_wp2_with fail
          refine (HT.out _).mono ?_
          rintro e w9 ⟨rfl, hb9⟩
          have HB9 : Hid (Below w.heap.size w w9) := Lib.hid (HB2.out.trans (hb9.mono HB2.out.size))
          clear hb9 x0 x1 x2 x3 x4 x5 x6 x7 x8 x9 x10 x11
          cases tg
          · have G : Hid (aboveM m c s _ = (0, 22)) := Lib.hid (by
              have : ae = 22 := by rw [HAE.out]; simp [HH.out]
              rw [HA.out, this]; rfl)
            go_wp2
            go_ret2
            exact ⟨by rw [G.out]; rfl, HB9.out⟩
          · have G : Hid (aboveM m c s _ = ((i : Int), 0)) := Lib.hid (by
              have : ae = 0 := by rw [HAE.out]; simp [HH.out]
              rw [HA.out, this]; rfl)
            go_wp2
            go_ret2
            exact ⟨by rw [G.out]; rfl, HB9.out⟩
      · by_cases hi0 : i = 0
        · have HH := Lib.hid hi0
          have hz : ((i : Int) != 0) = false := by rw [hi0]; rfl
          clear hi0
          obtain ⟨x0, x1, x2, x3, x4, x5, x6, x7, x8, x9, x10, x11⟩ := HC12.out _ HL2.out
          cases yp
          · have G : Hid (aboveM m c s _ = ((i : Int), 0)) := Lib.hid (by
              have : ae = 0 := by rw [HAE.out]; simp [HH.out]
              rw [HA.out, this]; rfl)
            go_wp2
            go_ret2
            exact ⟨by rw [G.out]; rfl, HB2.out⟩
          · go_wp2_with fail
            refine (HT.out _).mono ?_
            rintro e w9 ⟨rfl, hb9⟩
            have HB9 : Hid (Below w.heap.size w w9) := Lib.hid (HB2.out.trans (hb9.mono HB2.out.size))
            clear hb9 x0 x1 x2 x3 x4 x5 x6 x7 x8 x9 x10 x11
            cases tg
            · have G : Hid (aboveM m c s _ = (0, 22)) := Lib.hid (by
                have : ae = 22 := by rw [HAE.out]; simp [HH.out]
                rw [HA.out, this]; rfl)
              go_wp2
              go_ret2
              exact ⟨by rw [G.out]; rfl, HB9.out⟩
            · have G : Hid (aboveM m c s _ = ((i : Int), 0)) := Lib.hid (by
                have : ae = 0 := by rw [HAE.out]; simp [HH.out]
                rw [HA.out, this]; rfl)
              go_wp2
              go_ret2
              exact ⟨by rw [G.out]; rfl, HB9.out⟩
        · have hz : ((i : Int) != 0) = true := by simp [hi0]
          have G : Hid (aboveM m c s false = (0, 23)) := Lib.hid (by
            have : ae = 23 := by rw [HAE.out, if_pos]; simp [hi0]
            rw [HA.out, this]; rfl)
          go_wp2
          go_ret2
          exact ⟨by rw [G.out]; rfl, HB2.out⟩
    · have HH : Hid True := Lib.hid trivial
      obtain ⟨x0, x1, x2, x3, x4, x5, x6, x7, x8, x9, x10, x11⟩ := HC12.out _ HL1.out
      cases yp
      · have G : Hid (aboveM m c s _ = ((i : Int), 0)) := Lib.hid (by
          have : ae = 0 := by rw [HAE.out]; simp [HH.out]
          rw [HA.out, this]; rfl)
        go_wp2
        go_ret2
        exact ⟨by rw [G.out]; rfl, HB1.out⟩
      · go_wp2_with fail
        refine (HT.out _).mono ?_
        rintro e w9 ⟨rfl, hb9⟩
        have HB9 : Hid (Below w.heap.size w w9) := Lib.hid (HB1.out.trans (hb9.mono HB1.out.size))
        clear hb9 x0 x1 x2 x3 x4 x5 x6 x7 x8 x9 x10 x11
        cases tg
        · have G : Hid (aboveM m c s _ = (0, 22)) := Lib.hid (by
            have : ae = 22 := by rw [HAE.out]; simp [HH.out]
            rw [HA.out, this]; rfl)
          go_wp2
          go_ret2
          exact ⟨by rw [G.out]; rfl, HB9.out⟩
        · have G : Hid (aboveM m c s _ = ((i : Int), 0)) := Lib.hid (by
            have : ae = 0 := by rw [HAE.out]; simp [HH.out]
            rw [HA.out, this]; rfl)
          go_wp2
          go_ret2
          exact ⟨by rw [G.out]; rfl, HB9.out⟩
  | none =>
    have h1 : Maps.has D (keyL s) = false := by rw [hr.1, hx]; rfl
    have HA : Hid (aboveM m c s want = (0, 20)) := Lib.hid (by unfold aboveM; rw [hx])
    have HM' : Hid ((w.alloc (.cells #[.string c.name, v1, v2, .int .i64 c.flags, .int .i64 c.loader, v5] 26)).ownsMap Tryz.prog 9 (plainElem Tryz.prog 3) bm m.length D) := by rw [← hw0]; exact HM
    clear hr hx h' HM
    go_enter Tryz.func50, Tryz.ntmps50
    go_wp2_with (first | (at_lookup; refine wpList_lookup_own_ok_int _ rfl _ _ 100 rfl 9 3 .i64 (Maps.string_keyed Tryz.underlying9) Tryz.underlying100 Tryz.underlying3 (Tryz.zeroValue3 _) bm m.length D rfl HM'.out _ (keyL s) rfl (WideMaps.keyOf_string_mk Tryz.underlying9 hs) ?_; rw [h1]; intro c hat hwc; clear hat hwc))
    go_ret2
    exact ⟨by rw [HA.out]; rfl, by rw [← hw0]; exact HB0.out⟩
end Go.Proofs.YtipinmbpdgjalaaGreatDoor.Hi
/- A class arrives. -/
set_option maxRecDepth 100000
set_option maxHeartbeats 8000000
set_option linter.unusedVariables false
set_option linter.unusedSimpArgs false
namespace Go.Proofs.YtipinmbpdgjalaaGreatDoor.Hi
open Go.RowKit Bs

/-- The first interface's error that isn't 0, or 0. -/
def ifcE (m : List EntM) (c : ClsM) : List ByteArray → Int
  | [] => 0
  | s :: r => if (aboveM m c s true).2 = 0 then ifcE m c r else (aboveM m c s true).2
/-- What keeps a class from arriving; 0: nothing. -/
def defE (m : List EntM) (c : ClsM) : Int :=
  if Pr.chk c = false then 1 else if 300 ≤ m.length then 5 else if (nameIx m c.name).isSome = true then 25
  else if (aboveM m c c.super false).2 ≠ 0 then (aboveM m c c.super false).2 else ifcE m c c.ifaces
def supOf (m : List EntM) (c : ClsM) : Int := (aboveM m c c.super false).1
def ifsOf (m : List EntM) (c : ClsM) : List Int := c.ifaces.map fun s => (aboveM m c s true).1
def entOf (m : List EntM) (c : ClsM) : EntM := putEnt m c (supOf m c) (ifsOf m c)
/-- The world behind a class that arrives. -/
def defM (m : List EntM) (c : ClsM) : List EntM := if defE m c = 0 then m ++ [entOf m c] else m
def defN (m : List EntM) (c : ClsM) : Int := if defE m c = 0 then (m.length : Int) else 0

theorem aboveE_cases (p c : ClsM) (i : Nat) (want : Bool) : aboveE p c i want = 0 ∨ aboveE p c i want = 22 ∨ aboveE p c i want = 23 := by
  unfold aboveE
  split
  · exact .inr (.inr rfl)
  · split
    · exact .inr (.inl rfl)
    · exact .inl rfl
theorem aboveM_ok {m : List EntM} {c : ClsM} {s : ByteArray} {want : Bool} (h : (aboveM m c s want).2 = 0) : ∃ i, nameIx m s = some i ∧ i < m.length ∧ (aboveM m c s want).1 = i ∧ aboveE (clsAt m i) c i want = 0 := by
  unfold aboveM at h ⊢
  cases hx : nameIx m s with
  | none => rw [hx] at h; simp at h
  | some i =>
    rw [hx] at h
    simp only at h ⊢
    by_cases e : aboveE (clsAt m i) c i want = 0
    · rw [if_pos e] at h ⊢
      exact ⟨i, rfl, nameIx_lt hx, rfl, e⟩
    · rw [if_neg e] at h
      exact absurd h e
theorem aboveM_fits {m : List EntM} {c : ClsM} {s : ByteArray} {want : Bool} (hl : m.length ≤ 300) : 0 ≤ (aboveM m c s want).1 ∧ (aboveM m c s want).1 ≤ 300 := by
  unfold aboveM
  cases hx : nameIx m s with
  | none => simp
  | some i =>
    have := nameIx_lt hx
    simp only
    split <;> simp <;> omega
theorem ifcE_all {m : List EntM} {c : ClsM} : ∀ {l : List ByteArray}, ifcE m c l = 0 → ∀ s ∈ l, (aboveM m c s true).2 = 0
  | [], _, s, hs => by cases hs
  | x :: r, h, s, hs => by
    unfold ifcE at h
    split at h
    · rename_i hx
      rcases List.mem_cons.1 hs with rfl | hs
      · exact hx
      · exact ifcE_all h s hs
    · rename_i hx
      exact absurd h hx

theorem chk_name {c : ClsM} (h : Pr.chk c = true) : c.name.size ≤ 60 := by
  unfold Pr.chk Pr.headerB Pr.headB Lf.validB at h
  simp only [Bool.and_eq_true, decide_eq_true_eq] at h
  have := h.1.2.1.1.1.1.1
  simp at this
  exact this.1

/-- A lookup with ok, as one step of a region that draws its order and turns nothing. -/
theorem wpStill_look {P : Program} {ops : Array Oper} {w : World} {Q : Act → Prop} {a : Act} {o : Oper} {rest : List Oper} (hg : o.guard = none) (m x : Operand) (t : TypeId) (hop : o.op = Op.lookup t m x true)
    {mv xv v : Value} (hm : a.eval m = mv) (hx : a.eval x = xv) (hrun : (Instr.lookup t mv xv true).run P w = .ok v w) (h : wpStill P ops w Q rest (a.put o.dst v)) : wpStill P ops w Q (o :: rest) a := by
  refine wpStill_step fun K hK => ?_
  have hw : Region.wanted o (yielded ops a.tmps) = true := by simp [Region.wanted, hg]
  rw [if_pos hw]
  unfold Oper.still
  simp only [execOp, hop, hm, hx]
  rw [Sem.run_bind, hrun]
  simp only [Result.andThen]
  exact ⟨rfl, hK _ h⟩

theorem info_int' : (Tryz.prog.info? 3).map (fun i => (i.zero, i.size, i.bytes)) = some (some (.int .i64 0), 1, 8) := by kernel_rfl

theorem Define {S SC : Nat → Prop} {bw : Nat} {w : World} {m : List EntM} {c : ClsM} {cs : List Value} (h : HW S bw w m) (hm : ∀ e ∈ m, e.c.name.size ≤ 1000) (hc : ClsIs SC w cs c) (hSC : ∀ k, SC k → k < w.heap.size) (hS : ∀ k, S k → k < w.heap.size) (he : Lf.Env w) :
    Calls Tryz.prog 16 #[.pointer (some ⟨bw, 0, none⟩), .agg cs.toArray] w fun e w' => e = .returned (.tuple #[.int .i64 (defN m c), .int .i64 (defE m c)]) ∧
      HW (fun k => S k ∨ (w.heap.size ≤ k ∧ k < w'.heap.size)) bw w' (defM m c) ∧ Chg S w w' := by
  have HCL := Lib.hid hc
  obtain ⟨iv, mv, rfl, p1, p2, hi, p3, p4, hme⟩ := hc
  obtain ⟨ia, ic, rfl, _⟩ := id hi
  obtain ⟨ma, mc, rfl, _⟩ := id hme
  have HI := Lib.hid hi
  rw [show [Value.string c.name, .string c.super, .slice ia c.ifaces.length ic, .int .i64 c.flags, .int .i64 c.loader, .slice ma c.meths.length mc].toArray = #[Value.string c.name, .string c.super, .slice ia c.ifaces.length ic, .int .i64 c.flags, .int .i64 c.loader, .slice ma c.meths.length mc] from rfl]
  obtain ⟨w0, hw0⟩ : ∃ w0, w0 = w.alloc (.cells #[Value.string c.name, .string c.super, .slice ia c.ifaces.length ic, .int .i64 c.flags, .int .i64 c.loader, .slice ma c.meths.length mc] 26) := ⟨_, rfl⟩
  have hb0 : Below w.heap.size w w0 := by rw [hw0]; exact (Below.refl _ _).alloc (Nat.le_refl _) _
  have hz0 : w.heap.size < w0.heap.size := by rw [hw0]; simp
  have hcell : w0.cell? ⟨w.heap.size, 0, none⟩ = some (.string c.name) ∧ w0.cell? ⟨w.heap.size, 1, none⟩ = some (.string c.super) ∧ w0.cell? ⟨w.heap.size, 2, none⟩ = some (.slice ia c.ifaces.length ic) ∧ w0.cell? ⟨w.heap.size, 3, none⟩ = some (.int .i64 c.flags) ∧ w0.cell? ⟨w.heap.size, 4, none⟩ = some (.int .i64 c.loader) ∧ w0.cell? ⟨w.heap.size, 5, none⟩ = some (.slice ma c.meths.length mc) := by
    rw [hw0]
    exact ⟨World.cell?_alloc_new .., World.cell?_alloc_new .., World.cell?_alloc_new .., World.cell?_alloc_new .., World.cell?_alloc_new .., World.cell?_alloc_new ..⟩
  have HB0 := Lib.hid hb0
  have HF : Hid (∀ w' : World, Below w0.heap.size w0 w' → w'.cell? ⟨w.heap.size, 0, none⟩ = some (.string c.name) ∧ w'.cell? ⟨w.heap.size, 1, none⟩ = some (.string c.super) ∧ w'.cell? ⟨w.heap.size, 2, none⟩ = some (.slice ia c.ifaces.length ic) ∧ w'.cell? ⟨w.heap.size, 3, none⟩ = some (.int .i64 c.flags) ∧ w'.cell? ⟨w.heap.size, 4, none⟩ = some (.int .i64 c.loader) ∧ w'.cell? ⟨w.heap.size, 5, none⟩ = some (.slice ma c.meths.length mc)) := Lib.hid fun w' hb => by
    obtain ⟨x0, x1, x2, x3, x4, x5⟩ := hcell
    exact ⟨below_cell' hb x0, below_cell' hb x1, below_cell' hb x2, below_cell' hb x3, below_cell' hb x4, below_cell' hb x5⟩
  have HHW : Hid (∀ w' : World, Below w.heap.size w w' → HW S bw w' m ∧ (∀ k, S k → k < w'.heap.size) ∧ ClsIs SC w' [Value.string c.name, .string c.super, .slice ia c.ifaces.length ic, .int .i64 c.flags, .int .i64 c.loader, .slice ma c.meths.length mc] c ∧ (∀ k, SC k → k < w'.heap.size) ∧ Lf.Env w') := Lib.hid fun w' hb =>
    ⟨h.alike hb.size (Alike.of_below hb hS), fun k hk => Nat.lt_of_lt_of_le (hS k hk) hb.size, HCL.out.alike (Alike.of_below hb hSC), fun k hk => Nat.lt_of_lt_of_le (hSC k hk) hb.size, he.below hb⟩
  have HFAIL : Hid (∀ (w' : World) (E : Int), Below w.heap.size w w' → defE m c = E → E ≠ 0 → (defN m c = 0 ∧ defE m c = E) ∧ HW (fun k => S k ∨ (w.heap.size ≤ k ∧ k < w'.heap.size)) bw w' (defM m c) ∧ Chg S w w') := Lib.hid fun w' E hb hE hne => by
    have hne' : ¬ defE m c = 0 := by rw [hE]; exact hne
    refine ⟨⟨by unfold defN; rw [if_neg hne'], hE⟩, ?_, ⟨hb.os, hb.tape, hb.output, hb.size, fun k h _ => hb.block k h⟩⟩
    unfold defM
    rw [if_neg hne']
    exact (h.alike hb.size (Alike.of_below hb hS)).mono fun k hk => .inl hk
  have HSC := Lib.hid hSC
  have HS := Lib.hid hS
  have HM := Lib.hid hm
  have HP : Hid (c.name.size ≤ maxLen ∧ c.super.size ≤ maxLen) := Lib.hid ⟨p1, p2⟩
  have hlen := h.wf.len
  obtain ⟨d1, d2, d3, d4, d5⟩ := HHW.out w0 hb0
  have HCK := Lib.hid (Pr.Check5 SC c _ w0 d3 d4 d5)
  clear h hi hme hS hSC he hb0 hcell d1 d2 d3 d4 d5 p1 p2 p3 p4 hm
  go_enter Tryz.func16, Tryz.ntmps16
  go_wp2_with fail
  rw [← hw0]
  refine HCK.out.mono ?_
  rintro e w1 ⟨rfl, hb1⟩
  have HB1 : Hid (Below w.heap.size w w1) := Lib.hid (HB0.out.trans (hb1.mono HB0.out.size))
  have HL1 := Lib.hid hb1
  clear hb1 HCK
  have HDE : Hid (defE m c = if Pr.chk c = false then 1 else if 300 ≤ m.length then 5 else if (nameIx m c.name).isSome = true then 25 else if (aboveM m c c.super false).2 ≠ 0 then (aboveM m c c.super false).2 else ifcE m c c.ifaces) := Lib.hid rfl
  unfold Pr.formE
  obtain ⟨ok, hok⟩ : ∃ ok, Pr.chk c = ok := ⟨_, rfl⟩
  rw [hok] at HDE ⊢
  cases ok
  · clear hok
    have G := HFAIL.out _ 1 HB1.out (HDE.out.trans (if_pos rfl)) (by decide)
    have HG := Lib.hid G
    clear G
    go_wp2
    go_ret2
    exact ⟨by rw [HG.out.1.1, HG.out.1.2]; rfl, HG.out.2⟩
  have HDE1 := Lib.hid (HDE.out.trans (if_neg (by simp)))
  clear HDE
  obtain ⟨x0, x1, x2, x3, x4, x5⟩ := HF.out _ HL1.out
  obtain ⟨d1, d2, d3, d4, d5⟩ := HHW.out w1 HB1.out
  obtain ⟨ga, cap, ha, hall⟩ := d1.all
  clear hall
  obtain ⟨T, va, bm, ps, D, q1, q2⟩ := id d1
  clear q2
  have hcn := q1.byName
  have hr := q1.reads c.name
  have HMAP := Lib.hid q1.map
  have hnm := chk_name hok
  clear hok
  have HAB := Lib.hid (fun (w' : World) (h : Below w.heap.size w w') (s : ByteArray) (want : Bool) (hs : s.size ≤ maxLen) => above (HHW.out w' h).1 c (.string c.super) (.slice ia c.ifaces.length ic) (.slice ma c.meths.length mc) s want hs (by omega) HM.out (HHW.out w' h).2.1)
  clear q1 d1 d2 d3 d4 d5
  by_cases h300 : 300 ≤ m.length
  · have HG := Lib.hid (HFAIL.out _ 5 HB1.out (HDE1.out.trans (if_pos h300)) (by decide))
    have h3 : decide ((300 : Int) ≤ (m.length : Int)) = true := decide_eq_true (by omega)
    go_wp2
    go_ret2
    exact ⟨by rw [HG.out.1.1, HG.out.1.2]; rfl, HG.out.2⟩
  have HDE2 := Lib.hid (HDE1.out.trans (if_neg h300))
  have h3 : decide ((300 : Int) ≤ (m.length : Int)) = false := decide_eq_false (by omega)
  clear HDE1
  have hs := HP.out.1
  obtain ⟨vl, hrun, hvl⟩ : ∃ cc : Int, (Instr.lookup 100 (.map (some bm)) (.string c.name) true).run Tryz.prog { w1 with drawn := w1.drawn + 1 } = .ok (.tuple #[.int .i64 cc, .bool (Maps.has D (keyL c.name))]) { w1 with drawn := w1.drawn + 1 } ∧ True := by
    obtain ⟨v, ps', hrun, hv⟩ := (HMAP.out.drew).look_ok (Maps.string_keyed Tryz.underlying9) Tryz.underlying100 (Tryz.zeroValue3 _) (plainElem_int Tryz.underlying3 (by decide)) (WideMaps.keyOf_string_mk Tryz.underlying9 hs)
    obtain ⟨cc, rfl, _, _⟩ := plainElem_int_inv Tryz.underlying3 hv
    exact ⟨cc, hrun, trivial⟩
  cases hx : nameIx m c.name with
  | some i =>
    have h1 : Maps.has D (keyL c.name) = true := by rw [hr.1, hx]; rfl
    have HG := Lib.hid (HFAIL.out _ 25 HB1.out.drew (HDE2.out.trans (if_pos (by rw [hx]; rfl))) (by decide))
    rw [h1] at hrun
    go_wp2_with fail
    refine wp_region_still_lit (by kernel_rfl) (by kernel_rfl) ?_
    repeat still_step
    refine wpStill_look rfl _ _ 100 rfl rfl rfl hrun ?_
    repeat still_step
    refine wpStill_nil ?_
    change (Exit.then _ _) _ _ w1.drew
    go_wp2
    go_ret2
    exact ⟨by rw [HG.out.1.1, HG.out.1.2]; rfl, HG.out.2⟩
  | none =>
    have h1 : Maps.has D (keyL c.name) = false := by rw [hr.1, hx]; rfl
    have HDE3 := Lib.hid (HDE2.out.trans (if_neg (by rw [hx]; simp)))
    have HX := Lib.hid hx
    rw [h1] at hrun
    clear HDE2 hr hx
    go_wp2_with fail
    refine wp_region_still_lit (by kernel_rfl) (by kernel_rfl) ?_
    repeat still_step
    refine wpStill_look rfl _ _ 100 rfl rfl rfl hrun ?_
    repeat still_step
    refine wpStill_nil ?_
    change (Exit.then _ _) _ _ w1.drew
    have HB2 := Lib.hid HB1.out.drew
    have HL2 := Lib.hid HL1.out.drew
    generalize w1.drew = w2 at HB2 HL2
    clear x0 x1 x2 x3 x4 x5 ha hcn hrun h1 HMAP HB1 HL1 h3 w1
    obtain ⟨x0, x1, x2, x3, x4, x5⟩ := HF.out _ HL2.out
    obtain ⟨sv, hsv⟩ : ∃ sv, (aboveM m c c.super false).1 = sv := ⟨_, rfl⟩
    obtain ⟨se, hse⟩ : ∃ se, (aboveM m c c.super false).2 = se := ⟨_, rfl⟩
    have HA3 := Lib.hid (HAB.out w2 HB2.out c.super false HP.out.2)
    rw [hsv, hse] at HA3
    rw [hse] at HDE3
    go_wp2_with fail
    refine HA3.out.mono ?_
    rintro e w3 ⟨rfl, hb3⟩
    have HB3 : Hid (Below w.heap.size w w3) := Lib.hid (HB2.out.trans (hb3.mono HB2.out.size))
    have HL3 : Hid (Below w0.heap.size w0 w3) := Lib.hid (HL2.out.trans (hb3.mono HL2.out.size))
    clear hb3 HA3 x0 x1 x2 x3 x4 x5
    by_cases hz : se = 0
    case neg =>
      have HG := Lib.hid (HFAIL.out _ se HB3.out (HDE3.out.trans (if_pos hz)) hz)
      have hz' : (se != 0) = true := by simpa using hz
      go_wp2
      go_ret2
      exact ⟨by rw [HG.out.1.1, HG.out.1.2]; rfl, HG.out.2⟩
    subst hz
    have HDE4 := Lib.hid (HDE3.out.trans (if_neg (by simp)))
    have HSV := Lib.hid (And.intro hsv hse)
    clear HDE3 hsv hse HB2 HL2
    obtain ⟨x0, x1, x2, x3, x4, x5⟩ := HF.out _ HL3.out
    obtain ⟨i0, hi0, hiz0, hiz1, hiz2⟩ := info_parts info_int'
    have HR0 : Hid (w3.ownsRow w3.heap.size 3 1 (.slice none 0 0) 0 []) := Lib.hid (World.ownsRow_nil _ _ _ _)
    have HLEN : Hid (c.ifaces.length * 16 ≤ 140737488355328) := Lib.hid (by obtain ⟨_, _, e, _, h, _⟩ := HI.out; exact h)
    go_wp2_with fail
    clear x0 x1 x2 x3 x4 x5
    go_loopg [11, 54] c.ifaces.length (fun gk u u2 wr => ∃ (k : Nat) (xs : List Int), Hid (k + gk = c.ifaces.length ∧ xs = (c.ifaces.take k).map (fun s => (aboveM m c s true).1) ∧ ifcE m c c.ifaces = ifcE m c (c.ifaces.drop k)) ∧ u2 = .int .i64 k ∧ Hid (wr.ownsRow w3.heap.size 3 1 u xs.length (xs.map (Value.int .i64))) ∧ Hid (Below w3.heap.size w3 wr))
    case atStart => exact ⟨0, [], Lib.hid ⟨Nat.zero_add _, by simp, by simp⟩, rfl, HR0, Lib.hid (Below.refl _ _)⟩
    case round =>
      clear HR0
      obtain ⟨k, xs, hk, rfl, hrow, hB⟩ := hrel
      have HBW : Hid (Below w.heap.size w wr) := Lib.hid (HB3.out.trans (hB.out.mono HB3.out.size))
      have HLW : Hid (Below w0.heap.size w0 wr) := Lib.hid (HL3.out.trans (hB.out.mono HL3.out.size))
      obtain ⟨x0, x1, x2, x3, x4, x5⟩ := HF.out _ HLW.out
      obtain ⟨ra, rc, rfl⟩ := own_slice hrow.out
      by_cases hlt : k < c.ifaces.length
      · have hlt' : (k : Int) < (c.ifaces.length : Int) := by omega
        obtain ⟨a', c', hf, hle, hby, hcells⟩ := HI.out
        injection hf with hf1 hf2 hf3
        subst hf1; subst hf3
        rcases hcells with hnil | ⟨b, o, rfl, hSb, hcell⟩
        · rw [hnil] at hlt; simp at hlt
        obtain ⟨cs, hcl, hcs, hR⟩ := hcell k hlt
        obtain ⟨rfl, i1⟩ := hR
        have hbs := HSC.out b hSb
        have g0 : wr.cell? ⟨b, o + k, none⟩ = some (.string c.ifaces[k]) := (World.cell?_of_block (w := w) (HBW.out.block b hbs)).trans (by simpa using hcs 0 (by simp))
        have HDROP : Hid (ifcE m c (c.ifaces.drop k) = if (aboveM m c c.ifaces[k] true).2 = 0 then ifcE m c (c.ifaces.drop (k + 1)) else (aboveM m c c.ifaces[k] true).2) := Lib.hid (by rw [List.drop_eq_getElem_cons hlt]; rfl)
        have HTAKE : Hid ((c.ifaces.take (k + 1)).map (fun s => (aboveM m c s true).1) = xs ++ [(aboveM m c c.ifaces[k] true).1]) := Lib.hid (by rw [List.take_succ_eq_append_getElem hlt, List.map_append, ← hk.out.2.1]; rfl)
        have HA := Lib.hid (HAB.out wr HBW.out c.ifaces[k] true i1)
        clear hcs hcell hcl i1
        generalize c.ifaces[k] = s at g0 HDROP HTAKE HA
        obtain ⟨ev, hev⟩ : ∃ ev, (aboveM m c s true).2 = ev := ⟨_, rfl⟩
        rw [hev] at HDROP HA
        generalize (aboveM m c s true).1 = iv at HTAKE HA
        clear hev
        go_wp2_with fail
        refine HA.out.mono ?_
        rintro e w4 ⟨rfl, hb4⟩
        have HB4 : Hid (Below w3.heap.size w3 w4) := Lib.hid (hB.out.trans (hb4.mono hB.out.size))
        have HBW4 : Hid (Below w.heap.size w w4) := Lib.hid (HBW.out.trans (hb4.mono HBW.out.size))
        have hrow4 : Hid (w4.ownsRow w3.heap.size 3 1 (.slice ra xs.length rc) xs.length (xs.map (Value.int .i64))) := Lib.hid (row_of_block hrow.out fun q hq => hb4.block q (own_live hrow.out hq).2)
        clear hb4 hrow x0 x1 x2 x3 x4 x5 g0 HA HBW HLW
        by_cases hz : ev = 0
        case neg =>
          have HG := Lib.hid (HFAIL.out _ ev HBW4.out (by rw [HDE4.out, hk.out.2.2, HDROP.out, if_neg hz]) hz)
          have hz' : (ev != 0) = true := by simpa using hz
          go_wp2
          go_ret2
          exact ⟨by rw [HG.out.1.1, HG.out.1.2]; rfl, HG.out.2⟩
        subst hz
        have HXL : Hid (xs.length ≤ 8796093022208) := Lib.hid (by have := HLEN.out; rw [hk.out.2.1]; simp; omega)
        have hz4 := HB4.out.size
        have HNEW : Hid (∀ j u, ([.int .i64 iv] : List Value)[j]? = some u → (w4.alloc (.cells #[.int .i64 iv] 3)).cell? ((⟨w4.heap.size, 0, none⟩ : Addr).add j) = some u) := Lib.hid (by
          intro j u hu
          cases j with
          | zero =>
            obtain rfl : Value.int IntKind.i64 iv = u := by simpa using hu
            show (w4.alloc _).cell? ⟨w4.heap.size, 0, none⟩ = _
            rw [World.cell?_alloc_new]; rfl
          | succ j => simp at hu)
        go_wp2_with (first | (at_builtin; refine wpList_append_own _ rfl _ _ 62 rfl w3.heap.size 3 i0 (.int .i64 0) 1 8 Tryz.underlying62 hi0 hiz0 hiz1 hiz2 rfl (by decide) (.slice ra xs.length rc) xs.length (xs.map (Value.int .i64)) rfl (hrow4.out.alloc _) ⟨w4.heap.size, 0, none⟩ 1 1 [.int .i64 iv] (by simp [Act.eval, Act.put]) rfl HNEW.out (by intro u hu; simp at hu; subst hu; rfl) (by have := HXL.out; unfold maxLen; omega) (by have := HXL.out; omega) (by simp; omega) ?_; intro v1 w5 hown1 hgrow1 hnil1; obtain ⟨g1, cap1, rfl⟩ := own_form hown1))
        have HB5 : Hid (Below w3.heap.size w3 w5) := Lib.hid ((HB4.out.alloc HB4.out.size _).grown hgrow1 (by simp; omega) (fun q hq => (own_live hrow4.out hq).1))
        have HR5 : Hid (w5.ownsRow w3.heap.size 3 1 (.slice (some ⟨g1, 0, none⟩) (xs.length + 1) cap1) (xs ++ [iv]).length ((xs ++ [iv]).map (Value.int .i64))) := Lib.hid (by simpa using hown1)
        have HN : Hid (ifcE m c c.ifaces = ifcE m c (c.ifaces.drop (k + 1))) := Lib.hid (by rw [hk.out.2.2, HDROP.out]; simp)
        go_roundg (c.ifaces.length - (k + 1))
        case measure => have := hk.out.1; omega
        case rel => exact ⟨k + 1, xs ++ [iv], Lib.hid ⟨by omega, HTAKE.out.symm, HN.out⟩, by go_num, by simpa using HR5, HB5⟩
      · have hkn : k = c.ifaces.length := by have := hk.out.1; omega
        have HXS : Hid (xs = ifsOf m c ∧ ifcE m c c.ifaces = 0) := Lib.hid ⟨by rw [hk.out.2.1, hkn, List.take_length]; rfl, by rw [hk.out.2.2, hkn, List.drop_length]; rfl⟩
        have HDE0 : Hid (defE m c = 0) := Lib.hid (HDE4.out.trans HXS.out.2)
        have HPUT : Hid (0 ≤ sv ∧ sv < m.length ∧ ∀ x ∈ xs, 0 ≤ x ∧ x < m.length) := Lib.hid (by
          obtain ⟨i, _, h1, h2, _⟩ := aboveM_ok HSV.out.2
          rw [HSV.out.1] at h2
          refine ⟨by omega, by omega, fun x hx => ?_⟩
          rw [HXS.out.1] at hx
          obtain ⟨s, hs, rfl⟩ := List.mem_map.1 hx
          obtain ⟨i, _, h1, h2, _⟩ := aboveM_ok (ifcE_all HXS.out.2 s hs)
          rw [h2]
          omega)
        have HENT : Hid (putEnt m c sv xs = entOf m c) := Lib.hid (by rw [HXS.out.1, ← HSV.out.1]; rfl)
        have HXF : Hid ((∀ x ∈ xs, Fits x) ∧ xs.length * 8 ≤ 140737488355328) := Lib.hid ⟨fun x hx => by have := HPUT.out.2.2 x hx; unfold Fits; omega, by have := HLEN.out; rw [HXS.out.1]; unfold ifsOf; simp; omega⟩
        have HCO := Lib.hid (copied SC c _ wr (HHW.out wr HBW.out).2.2.1 (HHW.out wr HBW.out).2.2.2.1)
        clear hk hkn
        go_wp2_with fail
        refine HCO.out.mono ?_
        rintro e w6 ⟨cs', rfl, hcls, hb6⟩
        have HB6 : Hid (Below w.heap.size w w6) := Lib.hid (HBW.out.trans (hb6.mono HBW.out.size))
        have HR6 : Hid (IntSl (fun b => b < w6.heap.size) w6 (.slice ra xs.length rc) xs) := Lib.hid (IntSl.of_own (row_of_block hrow.out fun q hq => hb6.block q (own_live hrow.out hq).2) HXF.out.1 HXF.out.2 _ fun b hb => by
          have := (own_live hrow.out hb).2
          have := hb6.size
          omega)
        have HPT := Lib.hid (put (S0 := fun b => wr.heap.size ≤ b ∧ b < w6.heap.size) (HHW.out w6 HB6.out).1 hcls (fun q hq => ⟨hq.2, fun h => by have := HS.out q h; have := HBW.out.size; omega⟩) HPUT.out (by omega) HX.out HR6.out (fun q hq => hq))
        clear hcls x0 x1 x2 x3 x4 x5 HCO
        go_wp2_with fail
        refine HPT.out.mono ?_
        rintro e w7 ⟨rfl, hw7, hc7⟩
        have FIN : Hid ((defN m c = m.length ∧ defE m c = 0) ∧ HW (fun k => S k ∨ (w.heap.size ≤ k ∧ k < w7.heap.size)) bw w7 (defM m c) ∧ Chg S w w7) := Lib.hid (by
          refine ⟨⟨by unfold defN; rw [if_pos HDE0.out], HDE0.out⟩, ?_, (Chg.of_below HB6.out).trans hc7 fun k _ h => h⟩
          unfold defM
          rw [if_pos HDE0.out, ← HENT.out]
          have e1 := HBW.out.size
          have e2 := hc7.size
          have e3 := HB6.out.size
          refine hw7.mono fun k hk => ?_
          rcases hk with hk | hk | hk
          · exact .inl hk
          · exact .inr ⟨by omega, by omega⟩
          · exact .inr ⟨by omega, hk.2⟩)
        clear hw7 hc7 hb6
        go_wp2
        go_ret2
        exact ⟨by rw [FIN.out.1.1, FIN.out.1.2]; rfl, FIN.out.2⟩
end Go.Proofs.YtipinmbpdgjalaaGreatDoor.Hi
