/- Overriding: a class's own method of the asked one's name. -/
import Derived.Test.YtiiebakblkpkeaaGreatDoorOd
set_option maxRecDepth 100000
set_option maxHeartbeats 8000000
set_option linter.unusedVariables false
set_option linter.unusedSimpArgs false
namespace Go.Proofs.YtiiebakblkpkeaaGreatDoor.Hi
open Go.RowKit Go.Sort Bs
attribute [local go_sem ↓] Go.wp_at_zero Go.wp_at_succ

theorem own_some {m : List EntM} {n d : ByteArray} {c : Nat} (hc : c < m.length) {b : Nat} (hb : b < m[c].c.meths.length) (e : (findH m (c : Int) n d).1 = (b : Int)) (h0 : (findH m (c : Int) n d).2 = 0) (hi : isIfaceM m c = false) :
    ownM m n d c = if (freeX m[c].c.meths[b] && !privF m[c].c.meths[b].flags) = true then some ((c : Int), (b : Int)) else none := by
  unfold ownM
  rw [if_pos ⟨h0, hi⟩, e, methAt_at hc hb]
theorem own_none {m : List EntM} {n d : ByteArray} {c : Nat} (h : (findH m (c : Int) n d).2 ≠ 0 ∨ isIfaceM m c = true) : ownM m n d c = none := by
  unfold ownM
  rw [if_neg]
  rintro ⟨h1, h2⟩
  rcases h with h | h
  · exact h h1
  · rw [h] at h2; cases h2

/-- A method in a box of its own. -/
structure MBox (w : World) (g : Nat) (y : MethM) (ad : Option Addr) (l c : Nat) : Prop where
  b0 : w.cell? ⟨g, 0, none⟩ = some (.string y.name)
  b1 : w.cell? ⟨g, 1, none⟩ = some (.string y.desc)
  b2 : w.cell? ⟨g, 2, none⟩ = some (.int .i64 y.flags)
  b3 : w.cell? ⟨g, 3, none⟩ = some (.int .i64 y.locals)
  b4 : w.cell? ⟨g, 4, none⟩ = some (.int .i64 y.stack)
  b5 : w.cell? ⟨g, 5, none⟩ = some (.slice ad l c)
theorem MBox.new (w : World) (y : MethM) (ad : Option Addr) (l c : Nat) : MBox (w.alloc (.cells #[.string y.name, .string y.desc, .int .i64 y.flags, .int .i64 y.locals, .int .i64 y.stack, .slice ad l c] 39)) w.heap.size y ad l c :=
  ⟨World.cell?_alloc_new .., World.cell?_alloc_new .., World.cell?_alloc_new .., World.cell?_alloc_new .., World.cell?_alloc_new .., World.cell?_alloc_new ..⟩
theorem ZmAt.box {w : World} {g : Nat} (h : ZmAt w g) (y : MethM) (ad : Option Addr) (l c : Nat) : MBox ((((((w.setCell ⟨g, 0, none⟩ (.string y.name)).setCell ⟨g, 1, none⟩ (.string y.desc)).setCell ⟨g, 2, none⟩ (.int .i64 y.flags)).setCell ⟨g, 3, none⟩ (.int .i64 y.locals)).setCell ⟨g, 4, none⟩ (.int .i64 y.stack)).setCell ⟨g, 5, none⟩ (.slice ad l c)) g y ad l c := by
  obtain ⟨e0, e1, e2, e3, e4, e5⟩ := set6 (v0 := .string y.name) (v1 := .string y.desc) (v2 := .int .i64 y.flags) (v3 := .int .i64 y.locals) (v4 := .int .i64 y.stack) (v5 := .slice ad l c) h.d0 h.d1 h.d2 h.d3 h.d4 h.d5
  exact ⟨e0, e1, e2, e3, e4, e5⟩
theorem MBox.next {w w' : World} {g : Nat} {y : MethM} {ad : Option Addr} {l c : Nat} (h : MBox w g y ad l c) (hb : Below w.heap.size w w') : MBox w' g y ad l c :=
  ⟨below_cell' hb h.b0, below_cell' hb h.b1, below_cell' hb h.b2, below_cell' hb h.b3, below_cell' hb h.b4, below_cell' hb h.b5⟩

theorem idAt_off {w w1 : World} (h : IdAt w w1) {g o : Nat} (hg : w.heap.size < g) {v : Value} (hv : w1.cell? ⟨g, o, none⟩ = some v) (v0 v1 : Value) : ((w1.setCell ⟨w.heap.size, 0, none⟩ v0).setCell ⟨w.heap.size, 1, none⟩ v1).cell? ⟨g, o, none⟩ = some v := by
  have key : ∀ (w' : World) (i : Nat) (u : Value), (w'.setCell ⟨w.heap.size, i, none⟩ u).cell? ⟨g, o, none⟩ = w'.cell? ⟨g, o, none⟩ := fun w' i u => World.cell?_of_block (Below.heap_setCell w' ⟨w.heap.size, i, none⟩ u g (by simp only; omega))
  rw [key, key]
  exact hv

/-- The class's own method of the asked one's name, and whether it may override. -/
theorem OOwn {B bw : Nat} {w0 w : World} {m : List EntM} (h : Built B bw w0 w m) {q : Nat} {a0 : Int × Int} {x : MethM} (hq : AskAt w q bw a0 x) {c : Nat} (hc : c < m.length) :
    Calls Tryz.prog 74 #[.pointer (some ⟨q, 0, none⟩), .int .i64 c] w fun r w' => r = .returned (.tuple #[.agg #[.int .i64 c, .int .i64 (findH m c x.name x.desc).1], .bool (ownM m x.name x.desc c).isSome]) ∧ Below w.heap.size w w' := by
  have HS := Lib.hid (IdAt.start w)
  have HQ := Lib.hid (hq.next HS.out.bel)
  have HF := Lib.hid (fun wr (hr : Below w.heap.size w wr) => (h.next hr).find hc x.name x.desc)
  have HI := Lib.hid (fun wr (hr : Below w.heap.size w wr) => (h.next hr).isIface c)
  have z0 := HQ.out.k0
  have z3 := HQ.out.k3
  have z4 := HQ.out.k4
  by_cases he : (findH m (c : Int) x.name x.desc).2 = 0
  · obtain ⟨b, hb, ek, hmq⟩ := findH_ok hc he
    have HM := Lib.hid (fun wr (hr : Below w.heap.size w wr) => Method2 (h.next hr) hc hb)
    have HFR := Lib.hid (fun (l : Int) (s : Int) ad q cc wr => OFree m[c].c.meths[b].name m[c].c.meths[b].desc m[c].c.meths[b].flags l s ad q cc wr)
    rw [ek, he] at HF
    rw [ek]
    obtain ⟨ifc, hifc⟩ : ∃ ifc, isIfaceM m c = ifc := ⟨_, rfl⟩
    rw [hifc] at HI
    have HO : Hid ((ownM m x.name x.desc c).isSome = if ifc = true then false else ((!statF m[c].c.meths[b].flags && !(m[c].c.meths[b].name.toList == initN.toList)) && (bits .and .i64 m[c].c.meths[b].flags 2 == 0))) := Lib.hid (by
      cases ifc
      · rw [own_some hc hb ek he hifc]
        unfold freeX privF
        rw [bne]
        cases (!statF m[c].c.meths[b].flags && !(m[c].c.meths[b].name.toList == initN.toList)) <;> cases (bits .and .i64 m[c].c.meths[b].flags 2 == 0) <;> rfl
      · rw [own_none (.inr hifc)]
        rfl)
    obtain ⟨R, hR⟩ : ∃ R, (ownM m x.name x.desc c).isSome = R := ⟨_, rfl⟩
    rw [hR] at HO ⊢
    generalize m[c].c.meths[b] = y at HM HFR HO hmq
    generalize (!statF y.flags && !(y.name.toList == initN.toList)) = fr at HFR HO
    clear h hq hb ek he hifc hR HQ hmq
    go_enter Tryz.func74, Tryz.ntmps74
    go_wp2_with fail
    obtain ⟨ws, hws⟩ : ∃ ws, (w.alloc (.cells #[.int .i64 0, .int .i64 0] 24)) = ws := ⟨_, rfl⟩
    rw [hws] at HS z0 z3 z4 ⊢
    clear hws
    have k0 := cell_regrown z0
    have k3 := cell_regrown z3
    have k4 := cell_regrown z4
    have cF : ∀ d os, Calls Tryz.prog 21 #[.pointer (some ⟨bw, 0, none⟩), .int .i64 c, .string x.name, .string x.desc] (grow (redrawn ws d) os) fun e w'' => e = .returned (.tuple #[.int .i64 b, .int .i64 0]) ∧ ∃ p : Regrown, w'' = grow (redrawn ws p.d) p.os := fun d os => Calls.regrown_of (HF.out _ (HS.out.bel.trans ((below_regrown ws d os).mono HS.out.bel.size)))
    refine wp_region_quiet_below (by kernel_rfl) (by kernel_rfl) ?_
    repeat (quiet_step (exact cF _ _))
    refine wpQuiet_nil ?_
    intro _ hw'
    obtain ⟨⟨dq, osq⟩, hw''⟩ := hw'
    subst hw''
    have hb := below_regrown ws dq osq
    clear cF k0 k3 k4
    generalize grow (redrawn ws dq) osq = w1 at hb ⊢
    obtain ⟨wx, hwx⟩ : ∃ wx, (w1.alloc (.cells #[.int .i64 c, .int .i64 b] 24)) = wx := ⟨_, rfl⟩
    have hbx : Below w1.heap.size w1 wx := by rw [← hwx]; exact (Below.refl _ _).alloc (Nat.le_refl _) _
    have i0 : wx.cell? ⟨w1.heap.size, 0, none⟩ = some (.int .i64 c) := by rw [← hwx]; exact World.cell?_alloc_new ..
    have i1 : wx.cell? ⟨w1.heap.size, 1, none⟩ = some (.int .i64 b) := by rw [← hwx]; exact World.cell?_alloc_new ..
    have hb1 := hb.trans (hbx.mono hb.size)
    have HB1 := Lib.hid (HS.out.next hb1)
    have y0 := below_cell' hb1 z0
    have HIX := Lib.hid (HI.out wx HB1.out.bel)
    clear hb hbx hb1 HF HS HI z0 z3 z4
    go_wp2_with fail
    try rw [hwx]
    clear hwx
    refine HIX.out.mono ?_
    rintro _ w2 ⟨rfl, hb⟩
    have HB2 := Lib.hid (HB1.out.next hb)
    have z0 := below_cell' hb y0
    have j0 := below_cell' hb i0
    have j1 := below_cell' hb i1
    generalize w1.heap.size = ib at *
    clear hb HIX HB1 y0 i0 i1
    cases ifc
    · have HO2 : Hid (R = (fr && (bits .and .i64 y.flags 2 == 0))) := Lib.hid (by rw [HO.out]; rfl)
      clear HO
      go_wp2_with fail
      go_cut [9] from 10 to 52 (fun s9 wx => Hid (∃ (g : Nat) (ad : Option Addr) (l cc : Nat), s9 = .pointer (some ⟨g, 0, none⟩) ∧ w2.heap.size ≤ g ∧ MBox wx g y ad l cc ∧ Below w2.heap.size w2 wx))
      case first =>
        have hql : q < w2.heap.size := World.block_lt_of_cell? _ _ z0
        have hil : ib < w2.heap.size := World.block_lt_of_cell? _ _ j0
        have HX1 : Hid (Below w.heap.size w w2.drew) := Lib.hid HB2.out.bel.drew
        have HX2 : Hid (Below w.heap.size w (w2.alloc (.cells #[.string ⟨#[]⟩, .string ⟨#[]⟩, .int .i64 0, .int .i64 0, .int .i64 0, .slice none 0 0] 39)).drew) := Lib.hid (HB2.out.bel.alloc HB2.out.bel.size _).drew
        go_region_with (first | (go_at_call 15; (with_reducible refine (HM.out _ HX1.out).mono ?_); rintro _ w3 ⟨ad, l, cc, rfl, hb⟩) | (go_at_call 15; (with_reducible refine (HM.out _ HX2.out).mono ?_); rintro _ w3 ⟨ad, l, cc, rfl, hb⟩; (have HZM := Lib.hid (zm_at hb)); (have d0 := HZM.out.d0); (have d1 := HZM.out.d1); (have d2 := HZM.out.d2); (have d3 := HZM.out.d3); (have d4 := HZM.out.d4); (have d5 := HZM.out.d5); (have f0 := HZM.out.fz 0); (have f1 := HZM.out.fz 1); (have f2 := HZM.out.fz 2); (have f3 := HZM.out.fz 3); (have f4 := HZM.out.fz 4); (have f5 := HZM.out.fz 5)))
        all_goals first
          | ((have HDD := d0)
             (have HBF : Hid (Below w2.heap.size w2 w3) := Lib.hid (((Below.refl w2.heap.size w2).alloc (Nat.le_refl _) (.cells #[.string ⟨#[]⟩, .string ⟨#[]⟩, .int .i64 0, .int .i64 0, .int .i64 0, .slice none 0 0] 39)).drew.trans (hb.mono (by show w2.heap.size ≤ (w2.alloc _).heap.size; simp))))
             (clear hb HX1 HX2 HDD z0 j0 j1 hql hil)
             go_wp2_with fail
             go_meet
             exact Lib.hid ⟨w2.heap.size, ad, l, cc, rfl, Nat.le_refl _, HZM.out.box _ _ _ _, bel6 HBF.out (Nat.le_refl _) _ _ _ _ _ _⟩)
          | ((have HBF : Hid (Below w2.heap.size w2 w3) := Lib.hid ((Below.refl w2.heap.size w2).drew.trans hb))
             (clear hb HX1 HX2 z0 j0 j1 hql hil)
             go_wp2_with fail
             go_meet
             exact Lib.hid ⟨w3.heap.size, ad, l, cc, rfl, HBF.out.size, MBox.new _ _ _ _ _, HBF.out.alloc HBF.out.size _⟩)
      case rest =>
        obtain ⟨g, ad, l, cc, rfl, hg, hm, hbc⟩ := hcut.out
        clear hcut HM
        have HB3 := Lib.hid (HB2.out.next hbc)
        have i0 := below_cell' hbc j0
        have i1 := below_cell' hbc j1
        have HMB := Lib.hid hm
        have HFX := Lib.hid (HFR.out y.locals y.stack ad l cc wc.drew)
        have x0 := hm.b0
        have x1 := hm.b1
        have x2 := hm.b2
        have x3 := hm.b3
        have x4 := hm.b4
        have x5 := hm.b5
        have HG : Hid (w.heap.size < g) := Lib.hid (Nat.lt_of_lt_of_le HB2.out.lt hg)
        clear hg hm hbc HB2 HFR z0 j0 j1
        cases fr
        · have G : Hid (R = false) := Lib.hid (by rw [HO2.out]; rfl)
          clear HO2
          go_wp2_with fail
          refine wp_region_any (by kernel_rfl) ?_
          try (change wpAny _ _ _ _ _ _ _ (World.drew _))
          refine wpAny_ready (rs := [0, 1]) (by kernel_rfl) (by simp) ?_
          refine AllReady.cons rfl (fun K hK => ?_) (AllReady.cons rfl (fun K hK => ?_) AllReady.nil)
          · go_simp
            refine hK _ _ ?_
            clear hK K
            refine wpAny_ready (rs := [1]) (by kernel_rfl) (by simp) ?_
            refine AllReady.cons rfl (fun K hK => ?_) AllReady.nil
            go_simp
            refine hK _ _ ?_
            clear hK K
            refine wpAny_ready (rs := [2]) (by kernel_rfl) (by simp) ?_
            refine AllReady.cons rfl (fun K hK => ?_) AllReady.nil
            go_simp
            go_wp2_with ((go_at_call 72; (with_reducible refine HFX.out.mono ?_); rintro _ w4 ⟨rfl, hb⟩; (have HB4 := Lib.hid (HB3.out.next ((Below.refl wc.heap.size wc).drew.trans hb))); (have v0 := below_cell' hb (show wc.drew.cell? _ = _ from i0)); (have v1 := below_cell' hb (show wc.drew.cell? _ = _ from i1)); (have X2 := below_cell' hb (show wc.drew.cell? _ = _ from x2)); (have X2S := idAt_off HB4.out HG.out X2 (.int .i64 c) (.int .i64 b)); (have s0 := HB4.out.s0); (have s1 := HB4.out.s1); (have t0 := HB4.out.t 0); (have t1 := HB4.out.t 1)))
            refine wpAny_take (i := 3) (v := .bool false) rfl (by kernel_rfl) (by kernel_rfl) (by kernel_rfl) (fun _ _ _ h => h) (Or.inl ⟨rfl, ?_⟩) ?_
            · intro w; go_simp
            refine wpAny_take (i := 4) (v := undef) rfl (by kernel_rfl) (by kernel_rfl) (by kernel_rfl) (fun _ _ _ h => h) (Or.inr ⟨rfl, rfl⟩) ?_
            refine wpAny_take (i := 5) (v := undef) rfl (by kernel_rfl) (by kernel_rfl) (by kernel_rfl) (fun _ _ _ h => h) (Or.inr ⟨rfl, rfl⟩) ?_
            refine wpAny_take (i := 6) (v := undef) rfl (by kernel_rfl) (by kernel_rfl) (by kernel_rfl) (fun _ _ _ h => h) (Or.inr ⟨rfl, rfl⟩) ?_
            refine wpAny_take (i := 7) (v := undef) rfl (by kernel_rfl) (by kernel_rfl) (by kernel_rfl) (fun _ _ _ h => h) (Or.inr ⟨rfl, rfl⟩) ?_
            refine wpAny_take (i := 8) (v := .bool false) rfl (by kernel_rfl) (by kernel_rfl) (by kernel_rfl) (fun _ _ _ h => h) (Or.inl ⟨rfl, ?_⟩) ?_
            · intro w; go_simp
            refine wpAny_ready (rs := [9]) (by kernel_rfl) (by simp) ?_
            refine AllReady.cons rfl (fun K hK => ?_) AllReady.nil
            go_simp
            refine hK _ _ ?_
            clear hK K
            refine wpAny_take (i := 10) (v := .bool false) rfl (by kernel_rfl) (by kernel_rfl) (by kernel_rfl) (fun _ _ _ h => h) (Or.inl ⟨rfl, ?_⟩) ?_
            · intro w; go_simp
            refine wpAny_done (by kernel_rfl) ?_ _
            go_wp2_with fail
            refine bodyPost_ret (results_cells_tmp rfl _ _ w.heap.size [.int .i64 c, .int .i64 b] _ rfl (HB4.out.two _ _) Tryz.underlying24 rfl id_info2) rfl ⟨by rw [G.out]; rfl, HB4.out.end _ _⟩
          · go_simp
            refine hK _ _ ?_
            clear hK K
            refine wpAny_ready (rs := [0, 2]) (by kernel_rfl) (by simp) ?_
            refine AllReady.cons rfl (fun K hK => ?_) (AllReady.cons rfl (fun K hK => ?_) AllReady.nil)
            · go_simp
              refine hK _ _ ?_
              clear hK K
              refine wpAny_ready (rs := [2]) (by kernel_rfl) (by simp) ?_
              refine AllReady.cons rfl (fun K hK => ?_) AllReady.nil
              go_simp
              go_wp2_with ((go_at_call 72; (with_reducible refine HFX.out.mono ?_); rintro _ w4 ⟨rfl, hb⟩; (have HB4 := Lib.hid (HB3.out.next ((Below.refl wc.heap.size wc).drew.trans hb))); (have v0 := below_cell' hb (show wc.drew.cell? _ = _ from i0)); (have v1 := below_cell' hb (show wc.drew.cell? _ = _ from i1)); (have X2 := below_cell' hb (show wc.drew.cell? _ = _ from x2)); (have X2S := idAt_off HB4.out HG.out X2 (.int .i64 c) (.int .i64 b)); (have s0 := HB4.out.s0); (have s1 := HB4.out.s1); (have t0 := HB4.out.t 0); (have t1 := HB4.out.t 1)))
              refine wpAny_take (i := 3) (v := .bool false) rfl (by kernel_rfl) (by kernel_rfl) (by kernel_rfl) (fun _ _ _ h => h) (Or.inl ⟨rfl, ?_⟩) ?_
              · intro w; go_simp
              refine wpAny_take (i := 4) (v := undef) rfl (by kernel_rfl) (by kernel_rfl) (by kernel_rfl) (fun _ _ _ h => h) (Or.inr ⟨rfl, rfl⟩) ?_
              refine wpAny_take (i := 5) (v := undef) rfl (by kernel_rfl) (by kernel_rfl) (by kernel_rfl) (fun _ _ _ h => h) (Or.inr ⟨rfl, rfl⟩) ?_
              refine wpAny_take (i := 6) (v := undef) rfl (by kernel_rfl) (by kernel_rfl) (by kernel_rfl) (fun _ _ _ h => h) (Or.inr ⟨rfl, rfl⟩) ?_
              refine wpAny_take (i := 7) (v := undef) rfl (by kernel_rfl) (by kernel_rfl) (by kernel_rfl) (fun _ _ _ h => h) (Or.inr ⟨rfl, rfl⟩) ?_
              refine wpAny_take (i := 8) (v := .bool false) rfl (by kernel_rfl) (by kernel_rfl) (by kernel_rfl) (fun _ _ _ h => h) (Or.inl ⟨rfl, ?_⟩) ?_
              · intro w; go_simp
              refine wpAny_ready (rs := [9]) (by kernel_rfl) (by simp) ?_
              refine AllReady.cons rfl (fun K hK => ?_) AllReady.nil
              go_simp
              refine hK _ _ ?_
              clear hK K
              refine wpAny_take (i := 10) (v := .bool false) rfl (by kernel_rfl) (by kernel_rfl) (by kernel_rfl) (fun _ _ _ h => h) (Or.inl ⟨rfl, ?_⟩) ?_
              · intro w; go_simp
              refine wpAny_done (by kernel_rfl) ?_ _
              go_wp2_with fail
              refine bodyPost_ret (results_cells_tmp rfl _ _ w.heap.size [.int .i64 c, .int .i64 b] _ rfl (HB4.out.two _ _) Tryz.underlying24 rfl id_info2) rfl ⟨by rw [G.out]; rfl, HB4.out.end _ _⟩
            · go_simp
              go_wp2_with ((go_at_call 72; (with_reducible refine HFX.out.mono ?_); rintro _ w4 ⟨rfl, hb⟩; (have HB4 := Lib.hid (HB3.out.next ((Below.refl wc.heap.size wc).drew.trans hb))); (have v0 := below_cell' hb (show wc.drew.cell? _ = _ from i0)); (have v1 := below_cell' hb (show wc.drew.cell? _ = _ from i1)); (have X2 := below_cell' hb (show wc.drew.cell? _ = _ from x2)); (have X2S := idAt_off HB4.out HG.out X2 (.int .i64 c) (.int .i64 b)); (have s0 := HB4.out.s0); (have s1 := HB4.out.s1); (have t0 := HB4.out.t 0); (have t1 := HB4.out.t 1)))
              refine wpAny_take (i := 3) (v := .bool false) rfl (by kernel_rfl) (by kernel_rfl) (by kernel_rfl) (fun _ _ _ h => h) (Or.inl ⟨rfl, ?_⟩) ?_
              · intro w; go_simp
              refine wpAny_take (i := 4) (v := undef) rfl (by kernel_rfl) (by kernel_rfl) (by kernel_rfl) (fun _ _ _ h => h) (Or.inr ⟨rfl, rfl⟩) ?_
              refine wpAny_take (i := 5) (v := undef) rfl (by kernel_rfl) (by kernel_rfl) (by kernel_rfl) (fun _ _ _ h => h) (Or.inr ⟨rfl, rfl⟩) ?_
              refine wpAny_take (i := 6) (v := undef) rfl (by kernel_rfl) (by kernel_rfl) (by kernel_rfl) (fun _ _ _ h => h) (Or.inr ⟨rfl, rfl⟩) ?_
              refine wpAny_take (i := 7) (v := undef) rfl (by kernel_rfl) (by kernel_rfl) (by kernel_rfl) (fun _ _ _ h => h) (Or.inr ⟨rfl, rfl⟩) ?_
              refine wpAny_take (i := 8) (v := .bool false) rfl (by kernel_rfl) (by kernel_rfl) (by kernel_rfl) (fun _ _ _ h => h) (Or.inl ⟨rfl, ?_⟩) ?_
              · intro w; go_simp
              refine wpAny_ready (rs := [0]) (by kernel_rfl) (by simp) ?_
              refine AllReady.cons rfl (fun K hK => ?_) AllReady.nil
              go_simp
              refine hK _ _ ?_
              clear hK K
              refine wpAny_ready (rs := [9]) (by kernel_rfl) (by simp) ?_
              refine AllReady.cons rfl (fun K hK => ?_) AllReady.nil
              go_simp
              refine hK _ _ ?_
              clear hK K
              refine wpAny_take (i := 10) (v := .bool false) rfl (by kernel_rfl) (by kernel_rfl) (by kernel_rfl) (fun _ _ _ h => h) (Or.inl ⟨rfl, ?_⟩) ?_
              · intro w; go_simp
              refine wpAny_done (by kernel_rfl) ?_ _
              go_wp2_with fail
              refine bodyPost_ret (results_cells_tmp rfl _ _ w.heap.size [.int .i64 c, .int .i64 b] _ rfl (HB4.out.two _ _) Tryz.underlying24 rfl id_info2) rfl ⟨by rw [G.out]; rfl, HB4.out.end _ _⟩
        · obtain ⟨pv, hpv⟩ : ∃ pv, (bits .and .i64 y.flags 2 == 0) = pv := ⟨_, rfl⟩
          have G : Hid (R = (bits .and .i64 y.flags 2 == 0)) := Lib.hid (by rw [HO2.out]; rfl)
          clear HO2 hpv
          go_wp2_with fail
          go_region_with (first | (go_at_call 72; (with_reducible refine HFX.out.mono ?_); rintro _ w4 ⟨rfl, hb⟩; (have HB4 := Lib.hid (HB3.out.next ((Below.refl wc.heap.size wc).drew.trans hb))); (have v0 := below_cell' hb (show wc.drew.cell? _ = _ from i0)); (have v1 := below_cell' hb (show wc.drew.cell? _ = _ from i1)); (have X2 := below_cell' hb (show wc.drew.cell? _ = _ from x2)); (have X2S := idAt_off HB4.out HG.out X2 (.int .i64 c) (.int .i64 b)); (have s0 := HB4.out.s0); (have s1 := HB4.out.s1); (have t0 := HB4.out.t 0); (have t1 := HB4.out.t 1)))
          all_goals
            go_wp2_with fail
            refine bodyPost_ret (results_cells_tmp rfl _ _ w.heap.size [.int .i64 c, .int .i64 b] _ rfl (HB4.out.two _ _) Tryz.underlying24 rfl id_info2) rfl ⟨by rw [G.out]; rfl, HB4.out.end _ _⟩
    · have G : Hid (R = false) := Lib.hid (by rw [HO.out]; rfl)
      have s0 := HB2.out.s0
      have s1 := HB2.out.s1
      have t0 := HB2.out.t 0
      have t1 := HB2.out.t 1
      go_wp2
      refine bodyPost_ret (results_cells_tmp rfl _ _ w.heap.size [.int .i64 c, .int .i64 b] _ rfl (HB2.out.two _ _) Tryz.underlying24 rfl id_info2) rfl ⟨by rw [G.out]; rfl, HB2.out.end _ _⟩
  · have G : Hid ((ownM m x.name x.desc c).isSome = false) := Lib.hid (by rw [own_none (.inl he)]; rfl)
    rw [G.out]
    have he' : ((findH m (c : Int) x.name x.desc).2 != 0) = true := by simpa using he
    generalize findH m (c : Int) x.name x.desc = f at *
    obtain ⟨k, er⟩ := f
    simp only at he' HF ⊢
    clear h hq he HI G HQ
    go_enter Tryz.func74, Tryz.ntmps74
    go_wp2_with fail
    obtain ⟨ws, hws⟩ : ∃ ws, (w.alloc (.cells #[.int .i64 0, .int .i64 0] 24)) = ws := ⟨_, rfl⟩
    rw [hws] at HS z0 z3 z4 ⊢
    clear hws
    have k0 := cell_regrown z0
    have k3 := cell_regrown z3
    have k4 := cell_regrown z4
    have cF : ∀ d os, Calls Tryz.prog 21 #[.pointer (some ⟨bw, 0, none⟩), .int .i64 c, .string x.name, .string x.desc] (grow (redrawn ws d) os) fun e w'' => e = .returned (.tuple #[.int .i64 k, .int .i64 er]) ∧ ∃ p : Regrown, w'' = grow (redrawn ws p.d) p.os := fun d os => Calls.regrown_of (HF.out _ (HS.out.bel.trans ((below_regrown ws d os).mono HS.out.bel.size)))
    refine wp_region_quiet_below (by kernel_rfl) (by kernel_rfl) ?_
    repeat (quiet_step (exact cF _ _))
    refine wpQuiet_nil ?_
    intro _ hw'
    obtain ⟨⟨dq, osq⟩, hw''⟩ := hw'
    subst hw''
    have hb := below_regrown ws dq osq
    clear cF k0 k3 k4
    generalize grow (redrawn ws dq) osq = w1 at hb ⊢
    obtain ⟨wx, hwx⟩ : ∃ wx, (w1.alloc (.cells #[.int .i64 c, .int .i64 k] 24)) = wx := ⟨_, rfl⟩
    have hbx : Below w1.heap.size w1 wx := by rw [← hwx]; exact (Below.refl _ _).alloc (Nat.le_refl _) _
    have i0 : wx.cell? ⟨w1.heap.size, 0, none⟩ = some (.int .i64 c) := by rw [← hwx]; exact World.cell?_alloc_new ..
    have i1 : wx.cell? ⟨w1.heap.size, 1, none⟩ = some (.int .i64 k) := by rw [← hwx]; exact World.cell?_alloc_new ..
    have HB1 := Lib.hid (HS.out.next (hb.trans (hbx.mono hb.size)))
    have s0 := HB1.out.s0
    have s1 := HB1.out.s1
    have t0 := HB1.out.t 0
    have t1 := HB1.out.t 1
    clear hb hbx HF HS z0 z3 z4
    go_wp2_with fail
    try rw [hwx]
    clear hwx
    refine bodyPost_ret (results_cells_tmp rfl _ _ w.heap.size [.int .i64 c, .int .i64 k] _ rfl (HB1.out.two _ _) Tryz.underlying24 rfl id_info2) rfl ⟨rfl, HB1.out.end _ _⟩
end Go.Proofs.YtiiebakblkpkeaaGreatDoor.Hi
