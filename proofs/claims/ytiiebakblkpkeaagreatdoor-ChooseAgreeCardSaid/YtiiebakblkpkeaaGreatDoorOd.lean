/- Overriding: what the asker asks. -/
import Derived.Test.YtiiebakblkpkeaaGreatDoorOa
import Derived.Test.YtiiebakblkpkeaaGreatDoorOc
import Derived.Test.YtiiebakblkpkeaaGreatDoorFd
import Derived.Deep.RegionHeld3
import Derived.Deep.DrawnRows
import Derived.Deep.DeepCutAuto
import Derived.Deep.CutRange
import Derived.Lib.QuietBelow
set_option maxRecDepth 100000
set_option maxHeartbeats 1000000
set_option linter.unusedVariables false
set_option linter.unusedSimpArgs false
namespace Go.Proofs.YtiiebakblkpkeaaGreatDoor.Hi
open Go.RowKit Go.Sort Bs
attribute [local go_sem ↓] Go.wp_at_zero Go.wp_at_succ

theorem OStatic (nm ds : ByteArray) (f l s : Int) (ad : Option Addr) (q c : Nat) (w : World) :
    Calls Tryz.prog 71 #[.agg #[.string nm, .string ds, .int .i64 f, .int .i64 l, .int .i64 s, .slice ad q c]] w fun r w' => r = .returned (.bool (statF f)) ∧ Below w.heap.size w w' := by
  have hb : Below w.heap.size w (w.alloc (.cells #[.string nm, .string ds, .int .i64 f, .int .i64 l, .int .i64 s, .slice ad q c] 39)) := (Below.refl _ _).alloc (Nat.le_refl _) _
  have HB := Lib.hid hb
  unfold statF
  clear hb
  go_enter Tryz.func71, Tryz.ntmps71
  go_wp2
  go_ret
  exact ⟨rfl, HB.out⟩
theorem OFree (nm ds : ByteArray) (f l s : Int) (ad : Option Addr) (q c : Nat) (w : World) :
    Calls Tryz.prog 72 #[.agg #[.string nm, .string ds, .int .i64 f, .int .i64 l, .int .i64 s, .slice ad q c]] w fun r w' => r = .returned (.bool (!statF f && !(nm.toList == initN.toList))) ∧ Below w.heap.size w w' := by
  have hb : Below w.heap.size w (w.alloc (.cells #[.string nm, .string ds, .int .i64 f, .int .i64 l, .int .i64 s, .slice ad q c] 39)) := (Below.refl _ _).alloc (Nat.le_refl _) _
  have q0 : (w.alloc (.cells #[.string nm, .string ds, .int .i64 f, .int .i64 l, .int .i64 s, .slice ad q c] 39)).cell? ⟨w.heap.size, 0, none⟩ = some (.string nm) := World.cell?_alloc_new ..
  have HB := Lib.hid hb
  have HS := Lib.hid (OStatic nm ds f l s ad q c (w.alloc (.cells #[.string nm, .string ds, .int .i64 f, .int .i64 l, .int .i64 s, .slice ad q c] 39)))
  have e0 : initN.toList = [60, 105, 110, 105, 116, 62] := by rw [ByteArray.toList_eq]; rfl
  rw [e0]
  obtain ⟨ini, hini⟩ : ∃ ini, (nm.toList == [60, 105, 110, 105, 116, 62]) = ini := ⟨_, rfl⟩
  rw [hini]
  obtain ⟨st, hst⟩ : ∃ st, statF f = st := ⟨_, rfl⟩
  rw [hst] at HS ⊢
  clear hb hst e0
  cases st
  · cases ini
    all_goals
      go_enter Tryz.func72, Tryz.ntmps72
      go_wp2_with fail
      refine HS.out.mono ?_
      rintro e w1 ⟨rfl, hb⟩
      have HB1 := Lib.hid (HB.out.trans (hb.mono HB.out.size))
      have q1 := below_cell' hb q0
      clear hb HS
      go_wp2
      go_ret
      exact ⟨rfl, HB1.out⟩
  · go_enter Tryz.func72, Tryz.ntmps72
    go_wp2_with fail
    refine HS.out.mono ?_
    rintro e w1 ⟨rfl, hb⟩
    have HB1 := Lib.hid (HB.out.trans (hb.mono HB.out.size))
    clear hb HS
    go_wp2
    go_ret
    exact ⟨rfl, HB1.out⟩

/-- An asker in memory: the world, the method asked for, the method. -/
structure AskAt (w : World) (q bw : Nat) (a : Int × Int) (x : MethM) : Prop where
  k0 : w.cell? ⟨q, 0, none⟩ = some (.pointer (some ⟨bw, 0, none⟩))
  k1 : w.cell? ⟨q, 1, none⟩ = some (.int .i64 a.1)
  k2 : w.cell? ⟨q, 2, none⟩ = some (.int .i64 a.2)
  k3 : w.cell? ⟨q, 3, none⟩ = some (.string x.name)
  k4 : w.cell? ⟨q, 4, none⟩ = some (.string x.desc)
  k5 : w.cell? ⟨q, 5, none⟩ = some (.int .i64 x.flags)
  k6 : w.cell? ⟨q, 6, none⟩ = some (.int .i64 x.locals)
  k7 : w.cell? ⟨q, 7, none⟩ = some (.int .i64 x.stack)
  k8 : ∃ ad l c, w.cell? ⟨q, 8, none⟩ = some (.slice ad l c)
theorem AskAt.next {w w' : World} {q bw : Nat} {a : Int × Int} {x : MethM} (h : AskAt w q bw a x) (hb : Below w.heap.size w w') : AskAt w' q bw a x where
  k0 := below_cell' hb h.k0
  k1 := below_cell' hb h.k1
  k2 := below_cell' hb h.k2
  k3 := below_cell' hb h.k3
  k4 := below_cell' hb h.k4
  k5 := below_cell' hb h.k5
  k6 := below_cell' hb h.k6
  k7 := below_cell' hb h.k7
  k8 := by obtain ⟨ad, l, c, h8⟩ := h.k8; exact ⟨ad, l, c, below_cell' hb h8⟩

theorem methAt_at {m : List EntM} {a b : Nat} (ha : a < m.length) (hb : b < m[a].c.meths.length) : methAt m ((a : Int), (b : Int)) = some m[a].c.meths[b] := by
  unfold methAt
  simp only [entAt_nat ha]
  rw [if_pos (by omega), Int.toNat_natCast, List.getElem?_eq_getElem hb]

/-- A method's box of zeros, laid ahead of a call. -/
abbrev zM : Obj := .cells #[.string ⟨#[]⟩, .string ⟨#[]⟩, .int .i64 0, .int .i64 0, .int .i64 0, .slice none 0 0] 39
structure ZmAt (w1 : World) (g : Nat) : Prop where
  d0 : w1.cell? ⟨g, 0, none⟩ = some (.string ⟨#[]⟩)
  d1 : w1.cell? ⟨g, 1, none⟩ = some (.string ⟨#[]⟩)
  d2 : w1.cell? ⟨g, 2, none⟩ = some (.int .i64 0)
  d3 : w1.cell? ⟨g, 3, none⟩ = some (.int .i64 0)
  d4 : w1.cell? ⟨g, 4, none⟩ = some (.int .i64 0)
  d5 : w1.cell? ⟨g, 5, none⟩ = some (.slice none 0 0)
  fz : ∀ j, w1.frozen? ⟨g, j, none⟩ = false
theorem zm_at {wa w1 : World} (hb : Below (wa.alloc zM).drew.heap.size (wa.alloc zM).drew w1) : ZmAt w1 wa.heap.size where
  d0 := below_cell' hb (show World.cell? (wa.alloc zM) _ = _ from World.cell?_alloc_new ..)
  d1 := below_cell' hb (show World.cell? (wa.alloc zM) _ = _ from World.cell?_alloc_new ..)
  d2 := below_cell' hb (show World.cell? (wa.alloc zM) _ = _ from World.cell?_alloc_new ..)
  d3 := below_cell' hb (show World.cell? (wa.alloc zM) _ = _ from World.cell?_alloc_new ..)
  d4 := below_cell' hb (show World.cell? (wa.alloc zM) _ = _ from World.cell?_alloc_new ..)
  d5 := below_cell' hb (show World.cell? (wa.alloc zM) _ = _ from World.cell?_alloc_new ..)
  fz := fun j => (World.frozen?_of_block (w := (wa.alloc zM).drew) (a := ⟨wa.heap.size, j, none⟩) (hb.block _ (by show wa.heap.size < (wa.alloc zM).heap.size; simp))).trans (show (wa.alloc zM).frozen? ⟨wa.heap.size, j, none⟩ = false from frozen_new ..)

theorem off6 {w : World} {g : Nat} {v0 v1 v2 v3 v4 v5 : Value} {a : Addr} {v : Value} (h : a.block ≠ g) (hv : w.cell? a = some v) : ((((((w.setCell ⟨g, 0, none⟩ v0).setCell ⟨g, 1, none⟩ v1).setCell ⟨g, 2, none⟩ v2).setCell ⟨g, 3, none⟩ v3).setCell ⟨g, 4, none⟩ v4).setCell ⟨g, 5, none⟩ v5).cell? a = some v := by
  have key : ∀ (w' : World) (o : Nat) (u : Value), (w'.setCell ⟨g, o, none⟩ u).cell? a = w'.cell? a := fun w' o u => World.cell?_of_block (Below.heap_setCell w' ⟨g, o, none⟩ u a.block h)
  rw [key, key, key, key, key, key]
  exact hv
theorem bel6 {w w' : World} {g : Nat} (hb : Below w.heap.size w w') (hg : w.heap.size ≤ g) (v0 v1 v2 v3 v4 v5 : Value) : Below w.heap.size w ((((((w'.setCell ⟨g, 0, none⟩ v0).setCell ⟨g, 1, none⟩ v1).setCell ⟨g, 2, none⟩ v2).setCell ⟨g, 3, none⟩ v3).setCell ⟨g, 4, none⟩ v4).setCell ⟨g, 5, none⟩ v5) :=
  (((((hb.setCell hg _).setCell hg _).setCell hg _).setCell hg _).setCell hg _).setCell hg _
theorem ZmAt.flags {w : World} {g : Nat} (h : ZmAt w g) (v0 v1 v2 v3 v4 v5 : Value) : ((((((w.setCell ⟨g, 0, none⟩ v0).setCell ⟨g, 1, none⟩ v1).setCell ⟨g, 2, none⟩ v2).setCell ⟨g, 3, none⟩ v3).setCell ⟨g, 4, none⟩ v4).setCell ⟨g, 5, none⟩ v5).cell? ⟨g, 2, none⟩ = some v2 :=
  (set6 (v0 := v0) (v1 := v1) (v2 := v2) (v3 := v3) (v4 := v4) (v5 := v5) h.d0 h.d1 h.d2 h.d3 h.d4 h.d5).2.2.1

/-- May b be overridden from the class c? -/
theorem OSeen {B bw : Nat} {w0 w : World} {m : List EntM} (h : Built B bw w0 w m) {q : Nat} {a0 : Int × Int} {x0 : MethM} (hq : AskAt w q bw a0 x0) {c a b : Nat} (hc : c < m.length) (ha : a < m.length) (hb : b < m[a].c.meths.length) :
    Calls Tryz.prog 77 #[.pointer (some ⟨q, 0, none⟩), .int .i64 c, .agg #[.int .i64 a, .int .i64 b]] w fun r w' => r = .returned (.bool (seenM m c ((a : Int), (b : Int)))) ∧ Below w.heap.size w w' := by
  have hba : Below w.heap.size w (w.alloc (.cells #[.int .i64 a, .int .i64 b] 24)) := (Below.refl _ _).alloc (Nat.le_refl _) _
  have HB := Lib.hid hba
  have HQ := Lib.hid (hq.next hba)
  have HM := Lib.hid (fun wr (hr : Below w.heap.size w wr) => Method2 (h.next hr) ha hb)
  have HF := Lib.hid (fun wr => FOpen m[a].c.meths[b].flags wr)
  have HI := Lib.hid (fun wr (hr : Below w.heap.size w wr) => (h.next hr).isIface a)
  have HS := Lib.hid (fun wr (hr : Below w.heap.size w wr) => SamePackage_in (h.next hr).hw h.ord.short hc ha)
  have q0 : (w.alloc (.cells #[.int .i64 a, .int .i64 b] 24)).cell? ⟨w.heap.size, 0, none⟩ = some (.int .i64 a) := World.cell?_alloc_new ..
  have q1 : (w.alloc (.cells #[.int .i64 a, .int .i64 b] 24)).cell? ⟨w.heap.size, 1, none⟩ = some (.int .i64 b) := World.cell?_alloc_new ..
  have HE : Hid (seenM m c ((a : Int), (b : Int)) = if isIfaceM m a = true then openM m[a].c.meths[b].flags != 2 else (openM m[a].c.meths[b].flags == 1 || (openM m[a].c.meths[b].flags == 4 || (openM m[a].c.meths[b].flags == 0 && togB m[c].c.name m[a].c.name m[c].c.loader m[a].c.loader)))) := Lib.hid (by
    unfold seenM flO sameM
    rw [methAt_at ha hb]
    simp only [entAt_nat hc, entAt_nat ha])
  generalize m[a].c.meths[b] = x at HM HF HE
  generalize seenM m c ((a : Int), (b : Int)) = R at *
  generalize isIfaceM m a = ifa at *
  generalize togB m[c].c.name m[a].c.name m[c].c.loader m[a].c.loader = tg at *
  generalize openM x.flags = o at *
  clear h hba hq hb
  have z0 := HQ.out.k0
  go_enter Tryz.func77, Tryz.ntmps77
  go_wp2_with fail
  obtain ⟨wa, hwa⟩ : ∃ wa, (w.alloc (.cells #[.int .i64 a, .int .i64 b] 24)) = wa := ⟨_, rfl⟩
  rw [hwa] at HB HQ q0 q1 z0 ⊢
  clear hwa
  go_cut [7] from 8 to 18 (fun s7 wx => Hid (∃ g : Nat, s7 = .pointer (some ⟨g, 0, none⟩) ∧ wx.cell? ⟨g, 2, none⟩ = some (.int .i64 x.flags) ∧ (wx.cell? ⟨q, 0, none⟩ = some (.pointer (some ⟨bw, 0, none⟩)) ∧ wx.cell? ⟨w.heap.size, 0, none⟩ = some (.int .i64 a) ∧ wx.cell? ⟨w.heap.size, 1, none⟩ = some (.int .i64 b)) ∧ Below w.heap.size w wx))
  case first =>
    have HX1 : Hid (Below w.heap.size w wa.drew) := Lib.hid HB.out.drew
    have HX2 : Hid (Below w.heap.size w (wa.alloc (.cells #[.string ⟨#[]⟩, .string ⟨#[]⟩, .int .i64 0, .int .i64 0, .int .i64 0, .slice none 0 0] 39)).drew) := Lib.hid (HB.out.alloc HB.out.size _).drew
    have hql : q < wa.heap.size := World.block_lt_of_cell? _ _ z0
    have hwl : w.heap.size < wa.heap.size := World.block_lt_of_cell? _ _ q0
    go_region_with (first | (go_at_call 15; (with_reducible refine (HM.out _ HX1.out).mono ?_); rintro _ w1 ⟨ad, l, cc, rfl, hb⟩; (have y0 := below_cell' hb (show wa.drew.cell? _ = _ from z0)); (have p0 := below_cell' hb (show wa.drew.cell? _ = _ from q0)); (have p1 := below_cell' hb (show wa.drew.cell? _ = _ from q1))) | (go_at_call 15; (with_reducible refine (HM.out _ HX2.out).mono ?_); rintro _ w1 ⟨ad, l, cc, rfl, hb⟩; (have y0 := below_cell' hb (show World.cell? (World.drew _) _ = _ from alloc_old z0)); (have p0 := below_cell' hb (show World.cell? (World.drew _) _ = _ from alloc_old q0)); (have p1 := below_cell' hb (show World.cell? (World.drew _) _ = _ from alloc_old q1)); (have HZM := Lib.hid (zm_at hb)); (have d0 := HZM.out.d0); (have d1 := HZM.out.d1); (have d2 := HZM.out.d2); (have d3 := HZM.out.d3); (have d4 := HZM.out.d4); (have d5 := HZM.out.d5); (have f0 := HZM.out.fz 0); (have f1 := HZM.out.fz 1); (have f2 := HZM.out.fz 2); (have f3 := HZM.out.fz 3); (have f4 := HZM.out.fz 4); (have f5 := HZM.out.fz 5)))
    all_goals first
      | ((have HDD := d0)
         (have HBF := Lib.hid (HX2.out.trans (hb.mono HX2.out.size)))
         (have HY := Lib.hid (And.intro y0 (And.intro p0 p1)))
         (have HN := Lib.hid (And.intro hql hwl))
         (have HW := Lib.hid HB.out.size)
         (clear hb y0 p0 p1 hql hwl z0 q0 q1 HX1 HX2 HDD)
         go_wp2_with fail
         go_meet
         exact Lib.hid ⟨wa.heap.size, rfl, HZM.out.flags _ _ _ _ _ _, ⟨off6 (by have := HN.out.1; simp only; omega) HY.out.1, off6 (by have := HN.out.2; simp only; omega) HY.out.2.1, off6 (by have := HN.out.2; simp only; omega) HY.out.2.2⟩, bel6 HBF.out HW.out _ _ _ _ _ _⟩)
      | ((have HBF := Lib.hid (HX1.out.trans (hb.mono HX1.out.size)))
         (have HY := Lib.hid (And.intro y0 (And.intro p0 p1)))
         (clear hb y0 p0 p1 hql hwl z0 q0 q1 HX1 HX2)
         go_wp2_with fail
         go_meet
         exact Lib.hid ⟨w1.heap.size, rfl, World.cell?_alloc_new .., ⟨alloc_old HY.out.1, alloc_old HY.out.2.1, alloc_old HY.out.2.2⟩, HBF.out.alloc HBF.out.size _⟩)
  case rest =>
    obtain ⟨g, rfl, x2, ⟨y0, p0, p1⟩, hbc⟩ := hcut.out
    clear hcut
    have HB1 := Lib.hid hbc
    have HFX := Lib.hid (HF.out wc)
    clear hbc HM HB q0 q1 z0 HF HQ
    go_wp2_with fail
    refine HFX.out.mono ?_
    rintro _ w2 ⟨rfl, rfl⟩
    clear HFX
    go_wp2_with fail
    have k0 := cell_regrown y0
    have k1 := cell_regrown p0
    have cI : ∀ d os, Calls Tryz.prog 17 #[.pointer (some ⟨bw, 0, none⟩), .int .i64 a] (grow (redrawn wc d) os) fun e w'' => e = .returned (.bool ifa) ∧ ∃ p : Regrown, w'' = grow (redrawn wc p.d) p.os := fun d os => Calls.regrown_of (HI.out _ (HB1.out.trans ((below_regrown wc d os).mono HB1.out.size)))
    refine wp_region_quiet_below (by kernel_rfl) (by kernel_rfl) ?_
    repeat (quiet_step (exact cI _ _))
    refine wpQuiet_nil ?_
    intro _ hw'
    obtain ⟨⟨dq, osq⟩, hw''⟩ := hw'
    subst hw''
    have hb := below_regrown wc dq osq
    clear cI k0 k1
    generalize grow (redrawn wc dq) osq = w2 at hb ⊢
    have HB2 := Lib.hid (HB1.out.trans (hb.mono HB1.out.size))
    have q0 := below_cell' hb p0
    have q1 := below_cell' hb p1
    have z0 := below_cell' hb y0
    clear hb HB1 p0 p1 y0 HI
    cases ifa
    · have HE2 : Hid (R = (o == 1 || (o == 4 || (o == 0 && tg)))) := Lib.hid (by rw [HE.out]; rfl)
      clear HE
      by_cases h1 : o = 1
      · subst h1
        have G : Hid (R = true) := Lib.hid (by rw [HE2.out]; rfl)
        go_wp2_with fail
        go_quiet (fail)
        go_wp2
        go_ret
        exact ⟨by rw [G.out]; rfl, below_drewN HB2.out _⟩
      have h1' : (o == 1) = false := by simpa using h1
      by_cases h4 : o = 4
      · subst h4
        have G : Hid (R = true) := Lib.hid (by rw [HE2.out]; rfl)
        go_wp2_with fail
        go_quiet (fail)
        go_wp2
        go_ret
        exact ⟨by rw [G.out]; rfl, below_drewN HB2.out _⟩
      have h4' : (o == 4) = false := by simpa using h4
      by_cases h0 : o = 0
      · subst h0
        have G : Hid (R = tg) := Lib.hid (by rw [HE2.out]; rfl)
        clear HE2
        have k0 := cell_regrown z0
        have k1 := cell_regrown q0
        have cS : ∀ d os, Calls Tryz.prog 107 #[.pointer (some ⟨bw, 0, none⟩), .int .i64 c, .int .i64 a] (grow (redrawn w2 d) os) fun e w'' => e = .returned (.bool tg) ∧ ∃ p : Regrown, w'' = grow (redrawn w2 p.d) p.os := fun d os => Calls.regrown_of (HS.out _ (HB2.out.trans ((below_regrown w2 d os).mono HB2.out.size)))
        go_wp2_with fail
        refine wp_region_quiet_below (by kernel_rfl) (by kernel_rfl) ?_
        repeat (quiet_step (exact cS _ _))
        refine wpQuiet_nil ?_
        intro _ hw'
        obtain ⟨⟨dq, osq⟩, hw''⟩ := hw'
        subst hw''
        have HB3 := Lib.hid (HB2.out.trans ((below_regrown w2 dq osq).mono HB2.out.size))
        clear cS k0 k1
        go_wp2
        go_ret
        exact ⟨by rw [G.out]; rfl, HB3.out⟩
      · have h0' : (o == 0) = false := by simpa using h0
        have G : Hid (R = false) := Lib.hid (by rw [HE2.out, h1', h4', h0']; rfl)
        clear HE2
        go_wp2_with fail
        go_quiet (fail)
        go_wp2
        go_ret
        exact ⟨by rw [G.out]; rfl, below_drewN HB2.out _⟩
    · have G : Hid (R = (o != 2)) := Lib.hid (by rw [HE.out]; rfl)
      clear HE
      go_wp2
      go_ret
      exact ⟨by rw [G.out]; rfl, HB2.out⟩
end Go.Proofs.YtiiebakblkpkeaaGreatDoor.Hi
