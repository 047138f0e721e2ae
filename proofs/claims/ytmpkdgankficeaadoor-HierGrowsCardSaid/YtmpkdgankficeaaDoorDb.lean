/- A class above another, by its name. -/
import Derived.Test.YtmpkdgankficeaaDoorDa
import Derived.Test.YtmpkdgankficeaaDoorIa
set_option maxRecDepth 100000
set_option maxHeartbeats 8000000
set_option linter.unusedVariables false
set_option linter.unusedSimpArgs false
namespace Go.Proofs.YtmpkdgankficeaaDoor.Hi
open Go.RowKit Bs

/-- The class of that number. -/
def clsAt (m : List EntM) (i : Nat) : ClsM := (m[i]?.map (·.c)).getD default
theorem clsAt_at {m : List EntM} {i : Nat} (h : i < m.length) : clsAt m i = m[i].c := by unfold clsAt; rw [List.getElem?_eq_getElem h]; rfl
/-- What keeps class p (of number i) from standing above c; 0: nothing. -/
def aboveE (p c : ClsM) (i : Nat) (want : Bool) : Int :=
  if (Pr.isIfc p != want || (!want && Pr.isIfc c && decide (i ≠ 0))) = true then 23
  else if (bits .and .i64 p.flags 1 == 0 && !togB c.name p.name c.loader p.loader) = true then 22 else 0
/-- The class above, by its name, and the error. -/
def aboveM (m : List EntM) (c : ClsM) (s : ByteArray) (want : Bool) : Int × Int := match nameIx m s with
  | none => (0, 20)
  | some i => if aboveE (clsAt m i) c i want = 0 then ((i : Int), 0) else (0, aboveE (clsAt m i) c i want)

theorem above {S : Nat → Prop} {bw : Nat} {w : World} {m : List EntM} (h : HW S bw w m) (c : ClsM) (v1 v2 v5 : Value) (s : ByteArray) (want : Bool) (hs : s.size ≤ maxLen) (hc : c.name.size ≤ 1000) (hm : ∀ e ∈ m, e.c.name.size ≤ 1000) (hS : ∀ k, S k → k < w.heap.size) :
    Calls Tryd.prog 36 #[.pointer (some ⟨bw, 0, none⟩), .agg #[.string c.name, v1, v2, .int .i64 c.flags, .int .i64 c.loader, v5], .string s, .bool want] w fun e w' => e = .returned (.tuple #[.int .i64 (aboveM m c s want).1, .int .i64 (aboveM m c s want).2]) ∧ Below w.heap.size w w' := by
  obtain ⟨w0, hw0⟩ : ∃ w0, w0 = w.alloc (.cells #[.string c.name, v1, v2, .int .i64 c.flags, .int .i64 c.loader, v5] 32) := ⟨_, rfl⟩
  have hb0 : Below w.heap.size w w0 := by rw [hw0]; exact (Below.refl _ _).alloc (Nat.le_refl _) _
  have hce : ∀ j : Nat, w0.cell? ⟨w.heap.size, j, none⟩ = (#[Value.string c.name, v1, v2, .int .i64 c.flags, .int .i64 c.loader, v5])[j]? := fun j => by rw [hw0]; exact World.cell?_alloc_new ..
  have HCE := Lib.hid hce
  have HB0 := Lib.hid hb0
  have h' := h.alike hb0.size (Alike.of_below hb0 hS)
  clear hce h
  obtain ⟨T, va, bm, ps, D, h1, h2, h3, h4, h5⟩ := id h'
  have hcn := h1.byName
  have hr := h1.reads s
  have HM := Lib.hid h1.map
  clear h1 hb0
  rw [hw0] at hcn
  cases hx : nameIx m s with
  | some i =>
    have hlt := nameIx_lt hx
    have h1 : Maps.has D (keyL s) = true := by rw [hr.1, hx]; rfl
    have HR := Lib.hid (hr.2 i hx (.lit (.int .i64 0)))
    have HA : Hid (aboveM m c s want = if aboveE m[i].c c i want = 0 then ((i : Int), 0) else (0, aboveE m[i].c c i want)) := Lib.hid (by unfold aboveM; rw [hx]; simp only [clsAt_at hlt])
    have HN2 : Hid (m[i].c.name.size ≤ 1000) := Lib.hid (hm _ (List.getElem_mem hlt))
    obtain ⟨ga, cap, ha, hall⟩ := h'.all
    obtain ⟨g, be, rfl, hbe, he⟩ := hall i hlt
    obtain ⟨be', cs, cv, e1, e2, e3, e4, ⟨iv, mv, rfl, q1, q2, q3, q4, q5, q6⟩, _⟩ := he
    injection e1 with e1
    injection e1 with e1
    injection e1 with e1
    subst e1
    obtain ⟨ia, ic, rfl, _⟩ := id q3
    obtain ⟨ma, mc, rfl, _⟩ := id q6
    rw [hw0] at ha hbe e4
    have k0 := e4 0 (by simp)
    have k1 := e4 1 (by simp)
    have k2 := e4 2 (by simp)
    have k3 := e4 3 (by simp)
    have k4 := e4 4 (by simp)
    have k5 := e4 5 (by simp)
    simp only [List.getElem_cons_zero, List.getElem_cons_succ] at k0 k1 k2 k3 k4 k5
    have hlt' : (i : Int) < (m.length : Int) := by omega
    have HM' : Hid ((w.alloc (.cells #[.string c.name, v1, v2, .int .i64 c.flags, .int .i64 c.loader, v5] 32)).ownsMap Tryd.prog 9 (plainElem Tryd.prog 3) bm m.length D) := by rw [← hw0]; exact HM
    clear hr hx hall e4 q3 q6 h' HM
    generalize m[i].c = p at *
    go_enter Tryd.func36, Tryd.ntmps36
    go_wp2_with (first | (at_lookup; refine wpList_lookup_own_ok_int _ rfl _ _ 65 rfl 9 3 .i64 (Maps.string_keyed Tryd.underlying9) Tryd.underlying65 Tryd.underlying3 (Tryd.zeroValue3 _) bm m.length D rfl HM'.out _ (keyL s) rfl (WideMaps.keyOf_string_mk Tryd.underlying9 hs) ?_; rw [h1]; intro c hat hwc; obtain rfl := int_lit (hat.symm.trans HR.out)))
    have hbw : Below w.heap.size w ((w.alloc (.cells #[Value.string c.name, v1, v2, .int .i64 c.flags, .int .i64 c.loader, v5] 32)).alloc (.cells #[Value.string p.name, .string p.super, .slice ia p.ifaces.length ic, .int .i64 p.flags, .int .i64 p.loader, .slice ma p.meths.length mc] 32)) := (((Below.refl _ _).alloc (Nat.le_refl _) _).alloc (by simp) _)
    have hcell : (((w.alloc (.cells #[Value.string c.name, v1, v2, .int .i64 c.flags, .int .i64 c.loader, v5] 32)).alloc (.cells #[Value.string p.name, .string p.super, .slice ia p.ifaces.length ic, .int .i64 p.flags, .int .i64 p.loader, .slice ma p.meths.length mc] 32)).cell? ⟨w.heap.size, 0, none⟩ = some (.string c.name) ∧ ((w.alloc (.cells #[Value.string c.name, v1, v2, .int .i64 c.flags, .int .i64 c.loader, v5] 32)).alloc (.cells #[Value.string p.name, .string p.super, .slice ia p.ifaces.length ic, .int .i64 p.flags, .int .i64 p.loader, .slice ma p.meths.length mc] 32)).cell? ⟨w.heap.size, 1, none⟩ = some (v1) ∧ ((w.alloc (.cells #[Value.string c.name, v1, v2, .int .i64 c.flags, .int .i64 c.loader, v5] 32)).alloc (.cells #[Value.string p.name, .string p.super, .slice ia p.ifaces.length ic, .int .i64 p.flags, .int .i64 p.loader, .slice ma p.meths.length mc] 32)).cell? ⟨w.heap.size, 2, none⟩ = some (v2) ∧ ((w.alloc (.cells #[Value.string c.name, v1, v2, .int .i64 c.flags, .int .i64 c.loader, v5] 32)).alloc (.cells #[Value.string p.name, .string p.super, .slice ia p.ifaces.length ic, .int .i64 p.flags, .int .i64 p.loader, .slice ma p.meths.length mc] 32)).cell? ⟨w.heap.size, 3, none⟩ = some (.int .i64 c.flags) ∧ ((w.alloc (.cells #[Value.string c.name, v1, v2, .int .i64 c.flags, .int .i64 c.loader, v5] 32)).alloc (.cells #[Value.string p.name, .string p.super, .slice ia p.ifaces.length ic, .int .i64 p.flags, .int .i64 p.loader, .slice ma p.meths.length mc] 32)).cell? ⟨w.heap.size, 4, none⟩ = some (.int .i64 c.loader) ∧ ((w.alloc (.cells #[Value.string c.name, v1, v2, .int .i64 c.flags, .int .i64 c.loader, v5] 32)).alloc (.cells #[Value.string p.name, .string p.super, .slice ia p.ifaces.length ic, .int .i64 p.flags, .int .i64 p.loader, .slice ma p.meths.length mc] 32)).cell? ⟨w.heap.size, 5, none⟩ = some (v5) ∧ ((w.alloc (.cells #[Value.string c.name, v1, v2, .int .i64 c.flags, .int .i64 c.loader, v5] 32)).alloc (.cells #[Value.string p.name, .string p.super, .slice ia p.ifaces.length ic, .int .i64 p.flags, .int .i64 p.loader, .slice ma p.meths.length mc] 32)).cell? ⟨w.heap.size + 1, 0, none⟩ = some (.string p.name) ∧ ((w.alloc (.cells #[Value.string c.name, v1, v2, .int .i64 c.flags, .int .i64 c.loader, v5] 32)).alloc (.cells #[Value.string p.name, .string p.super, .slice ia p.ifaces.length ic, .int .i64 p.flags, .int .i64 p.loader, .slice ma p.meths.length mc] 32)).cell? ⟨w.heap.size + 1, 1, none⟩ = some (.string p.super) ∧ ((w.alloc (.cells #[Value.string c.name, v1, v2, .int .i64 c.flags, .int .i64 c.loader, v5] 32)).alloc (.cells #[Value.string p.name, .string p.super, .slice ia p.ifaces.length ic, .int .i64 p.flags, .int .i64 p.loader, .slice ma p.meths.length mc] 32)).cell? ⟨w.heap.size + 1, 2, none⟩ = some (.slice ia p.ifaces.length ic) ∧ ((w.alloc (.cells #[Value.string c.name, v1, v2, .int .i64 c.flags, .int .i64 c.loader, v5] 32)).alloc (.cells #[Value.string p.name, .string p.super, .slice ia p.ifaces.length ic, .int .i64 p.flags, .int .i64 p.loader, .slice ma p.meths.length mc] 32)).cell? ⟨w.heap.size + 1, 3, none⟩ = some (.int .i64 p.flags) ∧ ((w.alloc (.cells #[Value.string c.name, v1, v2, .int .i64 c.flags, .int .i64 c.loader, v5] 32)).alloc (.cells #[Value.string p.name, .string p.super, .slice ia p.ifaces.length ic, .int .i64 p.flags, .int .i64 p.loader, .slice ma p.meths.length mc] 32)).cell? ⟨w.heap.size + 1, 4, none⟩ = some (.int .i64 p.loader) ∧ ((w.alloc (.cells #[Value.string c.name, v1, v2, .int .i64 c.flags, .int .i64 c.loader, v5] 32)).alloc (.cells #[Value.string p.name, .string p.super, .slice ia p.ifaces.length ic, .int .i64 p.flags, .int .i64 p.loader, .slice ma p.meths.length mc] 32)).cell? ⟨w.heap.size + 1, 5, none⟩ = some (.slice ma p.meths.length mc)) := by
      have hp : ∀ j : Nat, ((w.alloc (.cells #[Value.string c.name, v1, v2, .int .i64 c.flags, .int .i64 c.loader, v5] 32)).alloc (.cells #[Value.string p.name, .string p.super, .slice ia p.ifaces.length ic, .int .i64 p.flags, .int .i64 p.loader, .slice ma p.meths.length mc] 32)).cell? ⟨w.heap.size + 1, j, none⟩ = (#[Value.string p.name, .string p.super, .slice ia p.ifaces.length ic, .int .i64 p.flags, .int .i64 p.loader, .slice ma p.meths.length mc])[j]? := fun j => by
        have := World.cell?_alloc_new (w.alloc (.cells #[Value.string c.name, v1, v2, .int .i64 c.flags, .int .i64 c.loader, v5] 32)) #[Value.string p.name, .string p.super, .slice ia p.ifaces.length ic, .int .i64 p.flags, .int .i64 p.loader, .slice ma p.meths.length mc] 32 j
        rw [World.size_alloc] at this
        exact this
      exact ⟨alloc_old (World.cell?_alloc_new ..), alloc_old (World.cell?_alloc_new ..), alloc_old (World.cell?_alloc_new ..), alloc_old (World.cell?_alloc_new ..), alloc_old (World.cell?_alloc_new ..), alloc_old (World.cell?_alloc_new ..), hp 0, hp 1, hp 2, hp 3, hp 4, hp 5⟩
    have HBW := Lib.hid hbw
    have HCELL := Lib.hid hcell
    have HC12 : Hid (∀ w' : World, Below ((w.alloc (.cells #[Value.string c.name, v1, v2, .int .i64 c.flags, .int .i64 c.loader, v5] 32)).alloc (.cells #[Value.string p.name, .string p.super, .slice ia p.ifaces.length ic, .int .i64 p.flags, .int .i64 p.loader, .slice ma p.meths.length mc] 32)).heap.size ((w.alloc (.cells #[Value.string c.name, v1, v2, .int .i64 c.flags, .int .i64 c.loader, v5] 32)).alloc (.cells #[Value.string p.name, .string p.super, .slice ia p.ifaces.length ic, .int .i64 p.flags, .int .i64 p.loader, .slice ma p.meths.length mc] 32)) w' → w'.cell? ⟨w.heap.size, 0, none⟩ = some (.string c.name) ∧ w'.cell? ⟨w.heap.size, 1, none⟩ = some (v1) ∧ w'.cell? ⟨w.heap.size, 2, none⟩ = some (v2) ∧ w'.cell? ⟨w.heap.size, 3, none⟩ = some (.int .i64 c.flags) ∧ w'.cell? ⟨w.heap.size, 4, none⟩ = some (.int .i64 c.loader) ∧ w'.cell? ⟨w.heap.size, 5, none⟩ = some (v5) ∧ w'.cell? ⟨w.heap.size + 1, 0, none⟩ = some (.string p.name) ∧ w'.cell? ⟨w.heap.size + 1, 1, none⟩ = some (.string p.super) ∧ w'.cell? ⟨w.heap.size + 1, 2, none⟩ = some (.slice ia p.ifaces.length ic) ∧ w'.cell? ⟨w.heap.size + 1, 3, none⟩ = some (.int .i64 p.flags) ∧ w'.cell? ⟨w.heap.size + 1, 4, none⟩ = some (.int .i64 p.loader) ∧ w'.cell? ⟨w.heap.size + 1, 5, none⟩ = some (.slice ma p.meths.length mc)) := Lib.hid fun w' hb => by
      obtain ⟨x0, x1, x2, x3, x4, x5, x6, x7, x8, x9, x10, x11⟩ := HCELL.out
      exact ⟨below_cell' hb x0, below_cell' hb x1, below_cell' hb x2, below_cell' hb x3, below_cell' hb x4, below_cell' hb x5, below_cell' hb x6, below_cell' hb x7, below_cell' hb x8, below_cell' hb x9, below_cell' hb x10, below_cell' hb x11⟩
    clear hcell hbw
    have HAE : Hid (aboveE p c i want = if (Pr.isIfc p != want || (!want && Pr.isIfc c && decide (i ≠ 0))) = true then 23 else if (bits .and .i64 p.flags 1 == 0 && !togB c.name p.name c.loader p.loader) = true then 22 else 0) := Lib.hid rfl
    have hfi : (bits .and .i64 p.flags 512 != 0) = Pr.isIfc p := rfl
    have hfc : (bits .and .i64 c.flags 512 != 0) = Pr.isIfc c := rfl
    have HIP := Lib.hid (Iface (.string p.name) (.string p.super) (.slice ia p.ifaces.length ic) (.int .i64 p.loader) (.slice ma p.meths.length mc) p.flags)
    have HIC := Lib.hid (Iface (.string c.name) v1 v2 (.int .i64 c.loader) v5 c.flags)
    rw [hfi] at HIP
    rw [hfc] at HIC
    have HT := Lib.hid (fun w' => Together c.name p.name c.loader p.loader v1 v2 (.int .i64 c.flags) v5 (.string p.super) (.slice ia p.ifaces.length ic) (.int .i64 p.flags) (.slice ma p.meths.length mc) w' (by omega) (by have := HN2.out; omega))
    clear hfi hfc
    generalize Pr.isIfc p = fi at HIP HAE
    generalize Pr.isIfc c = fc at HIC HAE
    generalize togB c.name p.name c.loader p.loader = tg at HT HAE
    obtain ⟨yp, hyp⟩ : ∃ y, (bits .and .i64 p.flags 1 == 0) = y := ⟨_, rfl⟩
    rw [hyp] at HAE
    generalize aboveE p c i want = ae at HAE HA
    refine (HIP.out _).mono ?_
    rintro e w1 ⟨rfl, hb1⟩
    have HB1 : Hid (Below w.heap.size w w1) := Lib.hid (HBW.out.trans (hb1.mono HBW.out.size))
    have HL1 := Lib.hid hb1
    clear hb1 k0 k1 k2 k3 k4 k5 ha hbe hcn HIP HM' HR
    by_cases hmis : fi = want
    case neg =>
      have G : Hid (aboveM m c s want = (0, 23)) := Lib.hid (by
        have : ae = 23 := by rw [HAE.out, if_pos]; cases fi <;> cases want <;> simp_all
        rw [HA.out, this]; rfl)
      have hne : (fi != want) = true := by cases fi <;> cases want <;> simp_all
      cases fi <;> cases want <;> first | exact absurd rfl hmis | skip
      all_goals
        go_wp2
        go_ret2
        exact ⟨by rw [G.out]; rfl, HB1.out⟩
    subst hmis
    cases fi
    · obtain ⟨x0, x1, x2, x3, x4, x5, x6, x7, x8, x9, x10, x11⟩ := HC12.out _ HL1.out
      go_wp2_with fail
      refine (HIC.out _).mono ?_
      rintro e w2 ⟨rfl, hb2⟩
      have HB2 : Hid (Below w.heap.size w w2) := Lib.hid (HB1.out.trans (hb2.mono HB1.out.size))
      have HL2 := Lib.hid (HL1.out.trans (hb2.mono HL1.out.size))
      clear hb2 x0 x1 x2 x3 x4 x5 x6 x7 x8 x9 x10 x11
      cases fc
      · have HH : Hid True := Lib.hid trivial
        obtain ⟨x0, x1, x2, x3, x4, x5, x6, x7, x8, x9, x10, x11⟩ := HC12.out _ HL2.out
        cases yp
        · have G : Hid (aboveM m c s _ = ((i : Int), 0)) := Lib.hid (by
            have : ae = 0 := by rw [HAE.out]; simp [HH.out]
            rw [HA.out, this]; rfl)
          go_wp2
          go_ret2
          exact ⟨by rw [G.out]; rfl, HB2.out⟩
        · go_wp2_with fail
          refine (HT.out _).mono ?_
          rintro e w9 ⟨rfl, hb9⟩
          have HB9 : Hid (Below w.heap.size w w9) := Lib.hid (HB2.out.trans (hb9.mono HB2.out.size))
          clear hb9 x0 x1 x2 x3 x4 x5 x6 x7 x8 x9 x10 x11
          cases tg
          · have G : Hid (aboveM m c s _ = (0, 22)) := Lib.hid (by
              have : ae = 22 := by rw [HAE.out]; simp [HH.out]
              rw [HA.out, this]; rfl)
            go_wp2
            go_ret2
            exact ⟨by rw [G.out]; rfl, HB9.out⟩
          · have G : Hid (aboveM m c s _ = ((i : Int), 0)) := Lib.hid (by
              have : ae = 0 := by rw [HAE.out]; simp [HH.out]
              rw [HA.out, this]; rfl)
            go_wp2
            go_ret2
            exact ⟨by rw [G.out]; rfl, HB9.out⟩
      · by_cases hi0 : i = 0
        · have HH := Lib.hid hi0
          have hz : ((i : Int) != 0) = false := by rw [hi0]; rfl
          clear hi0
          obtain ⟨x0, x1, x2, x3, x4, x5, x6, x7, x8, x9, x10, x11⟩ := HC12.out _ HL2.out
          cases yp
          · have G : Hid (aboveM m c s _ = ((i : Int), 0)) := Lib.hid (by
              have : ae = 0 := by rw [HAE.out]; simp [HH.out]
              rw [HA.out, this]; rfl)
            go_wp2
            go_ret2
            exact ⟨by rw [G.out]; rfl, HB2.out⟩
          · go_wp2_with fail
            refine (HT.out _).mono ?_
            rintro e w9 ⟨rfl, hb9⟩
            have HB9 : Hid (Below w.heap.size w w9) := Lib.hid (HB2.out.trans (hb9.mono HB2.out.size))
            clear hb9 x0 x1 x2 x3 x4 x5 x6 x7 x8 x9 x10 x11
            cases tg
            · have G : Hid (aboveM m c s _ = (0, 22)) := Lib.hid (by
                have : ae = 22 := by rw [HAE.out]; simp [HH.out]
                rw [HA.out, this]; rfl)
              go_wp2
              go_ret2
              exact ⟨by rw [G.out]; rfl, HB9.out⟩
            · have G : Hid (aboveM m c s _ = ((i : Int), 0)) := Lib.hid (by
                have : ae = 0 := by rw [HAE.out]; simp [HH.out]
                rw [HA.out, this]; rfl)
              go_wp2
              go_ret2
              exact ⟨by rw [G.out]; rfl, HB9.out⟩
        · have hz : ((i : Int) != 0) = true := by simp [hi0]
          have G : Hid (aboveM m c s false = (0, 23)) := Lib.hid (by
            have : ae = 23 := by rw [HAE.out, if_pos]; simp [hi0]
            rw [HA.out, this]; rfl)
          go_wp2
          go_ret2
          exact ⟨by rw [G.out]; rfl, HB2.out⟩
    · have HH : Hid True := Lib.hid trivial
      obtain ⟨x0, x1, x2, x3, x4, x5, x6, x7, x8, x9, x10, x11⟩ := HC12.out _ HL1.out
      cases yp
      · have G : Hid (aboveM m c s _ = ((i : Int), 0)) := Lib.hid (by
          have : ae = 0 := by rw [HAE.out]; simp [HH.out]
          rw [HA.out, this]; rfl)
        go_wp2
        go_ret2
        exact ⟨by rw [G.out]; rfl, HB1.out⟩
      · go_wp2_with fail
        refine (HT.out _).mono ?_
        rintro e w9 ⟨rfl, hb9⟩
        have HB9 : Hid (Below w.heap.size w w9) := Lib.hid (HB1.out.trans (hb9.mono HB1.out.size))
        clear hb9 x0 x1 x2 x3 x4 x5 x6 x7 x8 x9 x10 x11
        cases tg
        · have G : Hid (aboveM m c s _ = (0, 22)) := Lib.hid (by
            have : ae = 22 := by rw [HAE.out]; simp [HH.out]
            rw [HA.out, this]; rfl)
          go_wp2
          go_ret2
          exact ⟨by rw [G.out]; rfl, HB9.out⟩
        · have G : Hid (aboveM m c s _ = ((i : Int), 0)) := Lib.hid (by
            have : ae = 0 := by rw [HAE.out]; simp [HH.out]
            rw [HA.out, this]; rfl)
          go_wp2
          go_ret2
          exact ⟨by rw [G.out]; rfl, HB9.out⟩
  | none =>
    have h1 : Maps.has D (keyL s) = false := by rw [hr.1, hx]; rfl
    have HA : Hid (aboveM m c s want = (0, 20)) := Lib.hid (by unfold aboveM; rw [hx])
    have HM' : Hid ((w.alloc (.cells #[.string c.name, v1, v2, .int .i64 c.flags, .int .i64 c.loader, v5] 32)).ownsMap Tryd.prog 9 (plainElem Tryd.prog 3) bm m.length D) := by rw [← hw0]; exact HM
    clear hr hx h' HM
    go_enter Tryd.func36, Tryd.ntmps36
    go_wp2_with (first | (at_lookup; refine wpList_lookup_own_ok_int _ rfl _ _ 65 rfl 9 3 .i64 (Maps.string_keyed Tryd.underlying9) Tryd.underlying65 Tryd.underlying3 (Tryd.zeroValue3 _) bm m.length D rfl HM'.out _ (keyL s) rfl (WideMaps.keyOf_string_mk Tryd.underlying9 hs) ?_; rw [h1]; intro c hat hwc; clear hat hwc))
    go_ret2
    exact ⟨by rw [HA.out]; rfl, by rw [← hw0]; exact HB0.out⟩
end Go.Proofs.YtmpkdgankficeaaDoor.Hi
