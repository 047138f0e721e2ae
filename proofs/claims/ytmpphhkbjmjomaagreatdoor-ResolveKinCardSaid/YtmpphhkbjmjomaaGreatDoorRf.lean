/- Access: homes of classes; who sees what. -/
import Derived.Test.YtmpphhkbjmjomaaGreatDoorMK
import Derived.Test.YtmpphhkbjmjomaaGreatDoorRc
import Derived.Deep.RegionHeld3
import Derived.Deep.DrawnRows
set_option maxRecDepth 100000
set_option maxHeartbeats 1000000
set_option linter.unusedVariables false
set_option linter.unusedSimpArgs false
namespace Go.Proofs.YtmpphhkbjmjomaaGreatDoor.Hi
open Go.RowKit Bs
attribute [local go_sem ↓] Go.wp_at_zero Go.wp_at_succ

/-- Two structs and an error come back. -/
theorem results_cells2_tmp {P : Program} {fn : Func} {p q u : Tmp} {ty ty' : TypeId} (h : fn.results = #[.cell p ty, .cell q ty', .tmp u]) (tmps : Array Value) (w : World) (g g' : Nat) (cs cs' : List Value) (d d' : TypeDesc)
    (hp : tmps.getD p undef = .pointer (some ⟨g, 0, none⟩)) (hg : ∀ j (h : j < cs.length), w.cell? ⟨g, j, none⟩ = some cs[j])
    (hu : P.underlying ty = some d) (hd : aggD d = true) (hi : (P.info? ty).map (·.size) = some cs.length)
    (hp' : tmps.getD q undef = .pointer (some ⟨g', 0, none⟩)) (hg' : ∀ j (h : j < cs'.length), w.cell? ⟨g', j, none⟩ = some cs'[j])
    (hu' : P.underlying ty' = some d') (hd' : aggD d' = true) (hi' : (P.info? ty').map (·.size) = some cs'.length) :
    (results fn tmps).run P w = .ok (.tuple #[.agg cs.toArray, .agg cs'.toArray, tmps.getD u undef]) w := by
  have hp1 : tmps[p]?.getD undef = .pointer (some ⟨g, 0, none⟩) := by simpa using hp
  have hp2 : tmps[q]?.getD undef = .pointer (some ⟨g', 0, none⟩) := by simpa using hp'
  simp [results, h, hp1, hp2, asAddr, run_loadVar_cells w g ty cs d hg hu hd hi, run_loadVar_cells w g' ty' cs' d' hg' hu' hd' hi']
theorem home_info : (Tryz.prog.info? 83).map (·.size) = some 2 := by kernel_rfl

/-- The two places of homeOf's answers. -/
structure HomeAt (w w1 : World) : Prop where
  h : ∀ j v, (#[Value.int .i64 0, .string ⟨#[]⟩])[j]? = some v → w1.cell? ⟨w.heap.size, j, none⟩ = some v
  c : ∀ j v, (#[Value.string ⟨#[]⟩, .string ⟨#[]⟩, .slice none 0 0, .int .i64 0, .int .i64 0, .slice none 0 0])[j]? = some v → w1.cell? ⟨w.heap.size + 1, j, none⟩ = some v
  th : ∀ j, w1.frozen? ⟨w.heap.size, j, none⟩ = false
  tc : ∀ j, w1.frozen? ⟨w.heap.size + 1, j, none⟩ = false
  bel : Below w.heap.size w w1
  lt : w.heap.size + 1 < w1.heap.size
theorem HomeAt.start (w : World) : HomeAt w ((w.alloc (.cells #[.int .i64 0, .string ⟨#[]⟩] 83)).alloc (.cells #[.string ⟨#[]⟩, .string ⟨#[]⟩, .slice none 0 0, .int .i64 0, .int .i64 0, .slice none 0 0] 54)) := by
  refine ⟨fun j v hv => alloc_old ((World.cell?_alloc_new ..).trans hv), fun j v hv => ?_, fun j => ?_, fun j => ?_, ((Below.refl _ _).alloc (Nat.le_refl _) _).alloc (by simp) _, by simp⟩
  · have := World.cell?_alloc_new (w.alloc (.cells #[.int .i64 0, .string ⟨#[]⟩] 83)) #[.string ⟨#[]⟩, .string ⟨#[]⟩, .slice none 0 0, .int .i64 0, .int .i64 0, .slice none 0 0] 54 j
    rw [World.size_alloc] at this
    exact this.trans hv
  · exact (World.frozen?_of_block (w := w.alloc (.cells #[.int .i64 0, .string ⟨#[]⟩] 83)) (a := ⟨w.heap.size, j, none⟩) (Below.heap_alloc _ _ _ (by simp))).trans (frozen_new ..)
  · have := frozen_new (w.alloc (.cells #[.int .i64 0, .string ⟨#[]⟩] 83)) #[.string ⟨#[]⟩, .string ⟨#[]⟩, .slice none 0 0, .int .i64 0, .int .i64 0, .slice none 0 0] 54 j
    rw [World.size_alloc] at this
    exact this
theorem HomeAt.next {w w1 w2 : World} (h : HomeAt w w1) (hb : Below w1.heap.size w1 w2) : HomeAt w w2 :=
  ⟨fun j v hv => below_cell' hb (h.h j v hv), fun j v hv => below_cell' hb (h.c j v hv), fun j => (World.frozen?_of_block (w := w1) (a := ⟨w.heap.size, j, none⟩) (hb.block _ (show w.heap.size < _ by have := h.lt; omega))).trans (h.th j), fun j => (World.frozen?_of_block (w := w1) (a := ⟨w.heap.size + 1, j, none⟩) (hb.block _ h.lt)).trans (h.tc j), h.bel.trans (hb.mono h.bel.size), Nat.lt_of_lt_of_le h.lt hb.size⟩

theorem HomeOf {B bw : Nat} {w0 w : World} {m : List EntM} (h : Built B bw w0 w m) {i : Nat} (hi : i < m.length) :
    Calls Tryz.prog 31 #[.pointer (some ⟨bw, 0, none⟩), .int .i64 i] w fun r w' => ∃ cs' : List Value, r = .returned (.tuple #[.agg #[.int .i64 m[i].c.loader, .string (pkgM m[i].c.name)], .agg cs'.toArray, .int .i64 0]) ∧ ClsIs (fun b => b < w'.heap.size) w' cs' m[i].c ∧ Below w.heap.size w w' := by
  have HS := Lib.hid (HomeAt.start w)
  have h' := h.next HS.out.bel
  have HC := Lib.hid (Class_in h'.hw h'.live (entAt_nat hi))
  have hnm : m[i].c.name.size ≤ 1000 := h.ord.short _ (List.getElem_mem hi)
  have HP := Lib.hid (fun wr => Package m[i].c.name (by omega) wr)
  clear h h'
  generalize m[i].c = c at *
  go_enter Tryz.func31, Tryz.ntmps31
  go_wp2_with fail
  refine HC.out.mono ?_
  rintro _ w1 ⟨cs', rfl, hcl, hb⟩
  have HB := Lib.hid (HS.out.next hb)
  have HCL : Hid (ClsIs (fun b => w.heap.size + 2 ≤ b ∧ b < w1.heap.size) w1 cs' c) := Lib.hid (hcl.mono fun b hb => ⟨by simpa using hb.1, hb.2⟩)
  obtain ⟨iv, mv, rfl, _⟩ := hcl
  obtain ⟨ia, ic, rfl, _⟩ := (ClsIs.shape HCL.out).1
  obtain ⟨ma, mc, rfl, _⟩ := (ClsIs.shape HCL.out).2
  clear hb HC HS
  obtain ⟨wx, hwx⟩ : ∃ wx, w1.alloc (.cells #[.string c.name, .string c.super, .slice ia c.ifaces.length ic, .int .i64 c.flags, .int .i64 c.loader, .slice ma c.meths.length mc] 54) = wx := ⟨_, rfl⟩
  have hbx : Below w1.heap.size w1 wx := by rw [← hwx]; exact (Below.refl _ _).alloc (Nat.le_refl _) _
  have HBB := Lib.hid (HB.out.next hbx)
  have HCX := Lib.hid (ClsIs.alike HCL.out (Alike.of_below hbx fun _ h => h.2))
  have m : ∀ j, wx.cell? ⟨w1.heap.size, j, none⟩ = (#[.string c.name, .string c.super, .slice ia c.ifaces.length ic, .int .i64 c.flags, .int .i64 c.loader, .slice ma c.meths.length mc] : Array Value)[j]? := fun j => by rw [← hwx]; exact World.cell?_alloc_new ..
  have m0 : wx.cell? ⟨w1.heap.size, 0, none⟩ = some (.string c.name) := m 0
  have m1 : wx.cell? ⟨w1.heap.size, 1, none⟩ = some (.string c.super) := m 1
  have m2 : wx.cell? ⟨w1.heap.size, 2, none⟩ = some (.slice ia c.ifaces.length ic) := m 2
  have m3 : wx.cell? ⟨w1.heap.size, 3, none⟩ = some (.int .i64 c.flags) := m 3
  have m4 : wx.cell? ⟨w1.heap.size, 4, none⟩ = some (.int .i64 c.loader) := m 4
  have m5 : wx.cell? ⟨w1.heap.size, 5, none⟩ = some (.slice ma c.meths.length mc) := m 5
  have h0 := HBB.out.h 0 _ rfl
  have h1 := HBB.out.h 1 _ rfl
  have r0 := HBB.out.c 0 _ rfl
  have r1 := HBB.out.c 1 _ rfl
  have r2 := HBB.out.c 2 _ rfl
  have r3 := HBB.out.c 3 _ rfl
  have r4 := HBB.out.c 4 _ rfl
  have r5 := HBB.out.c 5 _ rfl
  simp only [List.getElem_toArray, List.getElem_cons_zero, List.getElem_cons_succ] at h0 h1 r0 r1 r2 r3 r4 r5
  have f0 := HBB.out.th 0
  have f1 := HBB.out.th 1
  have e0 := HBB.out.tc 0
  have e1 := HBB.out.tc 1
  have e2 := HBB.out.tc 2
  have e3 := HBB.out.tc 3
  have e4 := HBB.out.tc 4
  have e5 := HBB.out.tc 5
  have HQ : Hid (w1.heap.size ≤ wx.heap.size) := Lib.hid hbx.size
  have hq0 : w.heap.size ≠ w1.heap.size := by have := HB.out.lt; omega
  have hq1 : w.heap.size + 1 ≠ w1.heap.size := by have := HB.out.lt; omega
  go_wp2_with fail
  try rw [hwx]
  generalize w1.heap.size = q at *
  clear hwx hbx m HB HCL
  go_region_held3 (fun w' => w'.cell? ⟨q, 0, none⟩ = some (.string c.name) ∧ w'.cell? ⟨q, 1, none⟩ = some (.string c.super) ∧ w'.cell? ⟨q, 2, none⟩ = some (.slice ia c.ifaces.length ic) ∧ w'.cell? ⟨q, 3, none⟩ = some (.int .i64 c.flags) ∧ w'.cell? ⟨q, 4, none⟩ = some (.int .i64 c.loader) ∧ w'.cell? ⟨q, 5, none⟩ = some (.slice ma c.meths.length mc))
    (go_keep) (first | (go_at_call 49; refine (HP.out _).mono ?_; rintro e _ ⟨rfl, rfl⟩))
  go_wp2
  obtain ⟨W2, hW2⟩ : ∃ W2, (wx.setCell ⟨w.heap.size, 0, none⟩ (.int .i64 c.loader)).setCell ⟨w.heap.size, 1, none⟩ (.string (pkgM c.name)) = W2 := ⟨_, rfl⟩
  have k2 := set2 (v0 := .int .i64 c.loader) (v1 := .string (pkgM c.name)) h0 h1
  rw [hW2] at k2
  have hoff : ∀ j u, wx.cell? ⟨w.heap.size + 1, j, none⟩ = some u → W2.cell? ⟨w.heap.size + 1, j, none⟩ = some u := fun j u h => by
    rw [← hW2]; exact (setCell_off (by omega)).trans ((setCell_off (by omega)).trans h)
  have k6 := set6 (w := W2) (v0 := .string c.name) (v1 := .string c.super) (v2 := .slice ia c.ifaces.length ic) (v3 := .int .i64 c.flags) (v4 := .int .i64 c.loader) (v5 := .slice ma c.meths.length mc) (hoff _ _ r0) (hoff _ _ r1) (hoff _ _ r2) (hoff _ _ r3) (hoff _ _ r4) (hoff _ _ r5)
  have hb2 : Below w.heap.size w W2 := by rw [← hW2]; exact (HBB.out.bel.setCell (Nat.le_refl _) _).setCell (Nat.le_refl _) _
  have hsz : wx.heap.size = W2.heap.size := by rw [← hW2]; simp
  have hbl : ∀ b, w.heap.size + 2 ≤ b → W2.heap[b]? = wx.heap[b]? := fun b hb => by rw [← hW2, Below.heap_setCell _ _ _ _ (show b ≠ w.heap.size by omega), Below.heap_setCell _ _ _ _ (show b ≠ w.heap.size by omega)]
  rw [hW2]
  obtain ⟨W8, hW8⟩ : ∃ W8, (((((W2.setCell ⟨w.heap.size + 1, 0, none⟩ (.string c.name)).setCell ⟨w.heap.size + 1, 1, none⟩ (.string c.super)).setCell ⟨w.heap.size + 1, 2, none⟩ (.slice ia c.ifaces.length ic)).setCell ⟨w.heap.size + 1, 3, none⟩ (.int .i64 c.flags)).setCell ⟨w.heap.size + 1, 4, none⟩ (.int .i64 c.loader)).setCell ⟨w.heap.size + 1, 5, none⟩ (.slice ma c.meths.length mc) = W8 := ⟨_, rfl⟩
  have hh : ∀ j u, W2.cell? ⟨w.heap.size, j, none⟩ = some u → W8.cell? ⟨w.heap.size, j, none⟩ = some u := fun j u h => by
    rw [← hW8]
    iterate 6 rw [setCell_off (by omega)]
    exact h
  have hb8 : Below w.heap.size w W8 := by
    rw [← hW8]
    exact (((((hb2.setCell (Nat.le_succ _) _).setCell (Nat.le_succ _) _).setCell (Nat.le_succ _) _).setCell (Nat.le_succ _) _).setCell (Nat.le_succ _) _).setCell (Nat.le_succ _) _
  have hbl8 : ∀ b, w.heap.size + 2 ≤ b → W8.heap[b]? = wx.heap[b]? := fun b hb => by
    rw [← hW8]
    iterate 6 rw [Below.heap_setCell _ _ _ _ (show b ≠ w.heap.size + 1 by omega)]
    exact hbl b hb
  have hz8 : W2.heap.size = W8.heap.size := by rw [← hW8]; simp
  rw [hW8] at k6
  rw [hW8]
  have hcl : ClsIs (fun b => b < W8.heap.size) W8 [.string c.name, .string c.super, .slice ia c.ifaces.length ic, .int .i64 c.flags, .int .i64 c.loader, .slice ma c.meths.length mc] c :=
    (HCX.out.alike (w' := W8) fun b hb => hbl8 b hb.1).mono fun b hb => by have := HQ.out; have := hb.2; omega
  clear hW8 hW2 hbl hbl8 hoff HCX HBB
  have hd : ∀ p : Addr, W8.drew.cell? p = W8.cell? p := fun _ => rfl
  have hcl' : ClsIs (fun b => b < W8.drew.heap.size) W8.drew [.string c.name, .string c.super, .slice ia c.ifaces.length ic, .int .i64 c.flags, .int .i64 c.loader, .slice ma c.meths.length mc] c := hcl.alike fun _ _ => rfl
  have hb9 := hb8.drew
  have g2 := two ((hd _).trans (hh _ _ k2.1)) ((hd _).trans (hh _ _ k2.2))
  have g6 := six ((hd _).trans k6.1) ((hd _).trans k6.2.1) ((hd _).trans k6.2.2.1) ((hd _).trans k6.2.2.2.1) ((hd _).trans k6.2.2.2.2.1) ((hd _).trans k6.2.2.2.2.2)
  clear hcl hb8 hh k2 k6 hd h0 h1 r0 r1 r2 r3 r4 r5 m0 m1 m2 m3 m4 m5
  generalize W8.drew = W9 at *
  refine bodyPost_ret (results_cells2_tmp rfl _ _ w.heap.size (w.heap.size + 1) [.int .i64 c.loader, .string (pkgM c.name)] [.string c.name, .string c.super, .slice ia c.ifaces.length ic, .int .i64 c.flags, .int .i64 c.loader, .slice ma c.meths.length mc] _ _ rfl g2 Tryz.underlying83 rfl home_info rfl g6 Tryz.underlying54 rfl class_info) rfl ⟨_, rfl, hcl', hb9⟩
end Go.Proofs.YtmpphhkbjmjomaaGreatDoor.Hi
