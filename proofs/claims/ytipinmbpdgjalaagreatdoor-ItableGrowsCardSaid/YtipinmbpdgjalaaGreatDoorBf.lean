/- Interface tables: the same entries; Lookup: the walks. -/
import Derived.Test.YtipinmbpdgjalaaGreatDoorBe
import Derived.Test.YtipinmbpdgjalaaGreatDoorJe
set_option maxRecDepth 100000
set_option maxHeartbeats 4000000
set_option linter.unusedVariables false
set_option linter.unusedSimpArgs false
namespace Go.Proofs.YtipinmbpdgjalaaGreatDoor.Hi
open Go.RowKit Go.Shelf Go.Sort Bs

theorem RSameEntry (t : Ety) (w : World) : Calls Tryz.prog 38 #[.agg (etyCs t).toArray, .agg (etyCs t).toArray] w fun e w' => e = .returned (.bool true) ∧ Below w.heap.size w w' := by
  obtain ⟨⟨e1, e2⟩, ⟨⟨e3, e4⟩, e5⟩, ⟨⟨e6, e7⟩, e8⟩⟩ := t
  rw [show (etyCs ((e1, e2), ((e3, e4), e5), (e6, e7), e8)).toArray = #[.int .i64 e1, .int .i64 e2, .int .i64 e3, .int .i64 e4, .int .i64 e5, .int .i64 e6, .int .i64 e7, .int .i64 e8] from rfl]
  obtain ⟨wp, hwp⟩ : ∃ wp, (w.alloc (.cells #[.int .i64 e1, .int .i64 e2, .int .i64 e3, .int .i64 e4, .int .i64 e5, .int .i64 e6, .int .i64 e7, .int .i64 e8] 68)) = wp := ⟨_, rfl⟩
  obtain ⟨wa, hwa⟩ : ∃ wa, (wp.alloc (.cells #[.int .i64 e1, .int .i64 e2, .int .i64 e3, .int .i64 e4, .int .i64 e5, .int .i64 e6, .int .i64 e7, .int .i64 e8] 68)) = wa := ⟨_, rfl⟩
  have hbp : Below w.heap.size w wp := by rw [← hwp]; exact (Below.refl _ _).alloc (Nat.le_refl _) _
  have hba : Below wp.heap.size wp wa := by rw [← hwa]; exact (Below.refl _ _).alloc (Nat.le_refl _) _
  have hsp : wp.heap.size = w.heap.size + 1 := by rw [← hwp]; simp
  have hsa : wa.heap.size = w.heap.size + 1 + 1 := by rw [← hwa]; simp [hsp]
  have CA : Cells wa w.heap.size [.int .i64 e1, .int .i64 e2, .int .i64 e3, .int .i64 e4, .int .i64 e5, .int .i64 e6, .int .i64 e7, .int .i64 e8] := (show Cells wp w.heap.size _ by rw [← hwp]; exact Cells.start w [.int .i64 e1, .int .i64 e2, .int .i64 e3, .int .i64 e4, .int .i64 e5, .int .i64 e6, .int .i64 e7, .int .i64 e8] _).below hba (by omega)
  have CB : Cells wa (w.heap.size + 1) [.int .i64 e1, .int .i64 e2, .int .i64 e3, .int .i64 e4, .int .i64 e5, .int .i64 e6, .int .i64 e7, .int .i64 e8] := by
    have := (show Cells wa wp.heap.size _ by rw [← hwa]; exact Cells.start wp [.int .i64 e1, .int .i64 e2, .int .i64 e3, .int .i64 e4, .int .i64 e5, .int .i64 e6, .int .i64 e7, .int .i64 e8] _)
    rwa [hsp] at this
  have HRID := Lib.hid (fun a b w => by have := RID a b a b w; rw [beq_self_eq_true, beq_self_eq_true] at this; exact this)
  have HB := Lib.hid (hbp.trans (hba.mono (by omega)))
  have HC := Lib.hid (And.intro CA (And.intro CB (show w.heap.size + 1 < wa.heap.size by omega)))
  have HWE := Lib.hid (And.intro hwp hwa)
  have a0 : wa.cell? ⟨w.heap.size, 0, none⟩ = some (.int .i64 e1) := HC.out.1.1 0 (by simp)
  have b0 : wa.cell? ⟨w.heap.size + 1, 0, none⟩ = some (.int .i64 e1) := HC.out.2.1.1 0 (by simp)
  have a1 : wa.cell? ⟨w.heap.size, 1, none⟩ = some (.int .i64 e2) := HC.out.1.1 1 (by simp)
  have b1 : wa.cell? ⟨w.heap.size + 1, 1, none⟩ = some (.int .i64 e2) := HC.out.2.1.1 1 (by simp)
  clear hbp hba hsp hsa CA CB hwp hwa
  go_enter Tryz.func38, Tryz.ntmps38
  go_wp2_with fail
  rw [HWE.out.1, HWE.out.2]
  clear HWE
  refine (HRID.out e1 e2 wa).mono ?_
  rintro _ w1 ⟨rfl, hb⟩
  have HC1 := Lib.hid (And.intro (HC.out.1.below hb (by have := HC.out.2.2; omega)) (And.intro (HC.out.2.1.below hb HC.out.2.2) (show w.heap.size + 1 < w1.heap.size by have := hb.size; have := HC.out.2.2; omega)))
  have HB1 := Lib.hid (HB.out.trans (hb.mono HB.out.size))
  clear hb HC HB a0 b0 a1 b1
  have a2 : w1.cell? ⟨w.heap.size, 2, none⟩ = some (.int .i64 e3) := HC1.out.1.1 2 (by simp)
  have b2 : w1.cell? ⟨w.heap.size + 1, 2, none⟩ = some (.int .i64 e3) := HC1.out.2.1.1 2 (by simp)
  have a3 : w1.cell? ⟨w.heap.size, 3, none⟩ = some (.int .i64 e4) := HC1.out.1.1 3 (by simp)
  have b3 : w1.cell? ⟨w.heap.size + 1, 3, none⟩ = some (.int .i64 e4) := HC1.out.2.1.1 3 (by simp)
  go_wp2_with fail
  refine (HRID.out e3 e4 w1).mono ?_
  rintro _ w2 ⟨rfl, hb⟩
  have HC2 := Lib.hid (And.intro (HC1.out.1.below hb (by have := HC1.out.2.2; omega)) (And.intro (HC1.out.2.1.below hb HC1.out.2.2) (show w.heap.size + 1 < w2.heap.size by have := hb.size; have := HC1.out.2.2; omega)))
  have HB2 := Lib.hid (HB1.out.trans (hb.mono HB1.out.size))
  clear hb HC1 HB1 a2 b2 a3 b3
  have a4 : w2.cell? ⟨w.heap.size, 4, none⟩ = some (.int .i64 e5) := HC2.out.1.1 4 (by simp)
  have b4 : w2.cell? ⟨w.heap.size + 1, 4, none⟩ = some (.int .i64 e5) := HC2.out.2.1.1 4 (by simp)
  have a5 : w2.cell? ⟨w.heap.size, 5, none⟩ = some (.int .i64 e6) := HC2.out.1.1 5 (by simp)
  have b5 : w2.cell? ⟨w.heap.size + 1, 5, none⟩ = some (.int .i64 e6) := HC2.out.2.1.1 5 (by simp)
  have a6 : w2.cell? ⟨w.heap.size, 6, none⟩ = some (.int .i64 e7) := HC2.out.1.1 6 (by simp)
  have b6 : w2.cell? ⟨w.heap.size + 1, 6, none⟩ = some (.int .i64 e7) := HC2.out.2.1.1 6 (by simp)
  go_wp2_with fail
  refine (HRID.out e6 e7 w2).mono ?_
  rintro _ w3 ⟨rfl, hb⟩
  have HC3 := Lib.hid (And.intro (HC2.out.1.below hb (by have := HC2.out.2.2; omega)) (And.intro (HC2.out.2.1.below hb HC2.out.2.2) (show w.heap.size + 1 < w3.heap.size by have := hb.size; have := HC2.out.2.2; omega)))
  have HB3 := Lib.hid (HB2.out.trans (hb.mono HB2.out.size))
  clear hb HC2 HB2 a4 b4 a5 b5 a6 b6
  have a7 : w3.cell? ⟨w.heap.size, 7, none⟩ = some (.int .i64 e8) := HC3.out.1.1 7 (by simp)
  have b7 : w3.cell? ⟨w.heap.size + 1, 7, none⟩ = some (.int .i64 e8) := HC3.out.2.1.1 7 (by simp)
  go_wp2
  go_ret
  exact ⟨rfl, HB3.out⟩

theorem REntries {S S' : Nat → Prop} {w : World} {a a' : Option Addr} {c c' : Nat} {xs : List Ety} (h : EtySl S w (.slice a xs.length c) xs) (h' : EtySl S' w (.slice a' xs.length c') xs) (hS : ∀ k, S k → k < w.heap.size) (hS' : ∀ k, S' k → k < w.heap.size) :
    Calls Tryz.prog 33 #[.slice a xs.length c, .slice a' xs.length c'] w fun e w' => e = .returned (.bool true) ∧ Below w.heap.size w w' := by
  have HX := Lib.hid h
  have HY := Lib.hid h'
  have HS := Lib.hid (And.intro hS hS')
  have hb : xs.length * 64 ≤ 140737488355328 := by obtain ⟨_, _, _, _, h, _⟩ := h; exact h
  clear h h' hS hS'
  go_enter Tryz.func33, Tryz.ntmps33
  go_wp2_with fail
  go_loopg [5] xs.length (fun gk u wr => ∃ k : Nat, Hid (k + gk = xs.length) ∧ u = .int .i64 k ∧ Hid (Below w.heap.size w wr))
  case atStart => exact ⟨0, Lib.hid (Nat.zero_add _), rfl, Lib.hid (Below.refl _ _)⟩
  case round =>
    obtain ⟨k, hk, rfl, hw⟩ := hrel
    by_cases hlt : k < xs.length
    · have hlt' : (k : Int) < (xs.length : Int) := by omega
      obtain ⟨b, o, rfl, _, g0, g1, g2, g3, g4, g5, g6, g7⟩ := EtySl.elem (HX.out.carry (Alike.of_below hw.out HS.out.1)) hlt
      obtain ⟨b', o', rfl, _, f0, f1, f2, f3, f4, f5, f6, f7⟩ := EtySl.elem (HY.out.carry (Alike.of_below hw.out HS.out.2)) hlt
      generalize xs[k] = t at g0 g1 g2 g3 g4 g5 g6 g7 f0 f1 f2 f3 f4 f5 f6 f7
      obtain ⟨⟨e1, e2⟩, ⟨⟨e3, e4⟩, e5⟩, ⟨⟨e6, e7⟩, e8⟩⟩ := t
      dsimp only at g0 g1 g2 g3 g4 g5 g6 g7 f0 f1 f2 f3 f4 f5 f6 f7
      have k0 := cell_regrown g0
      have l0 := cell_regrown f0
      have k1 := cell_regrown g1
      have l1 := cell_regrown f1
      have k2 := cell_regrown g2
      have l2 := cell_regrown f2
      have k3 := cell_regrown g3
      have l3 := cell_regrown f3
      have k4 := cell_regrown g4
      have l4 := cell_regrown f4
      have k5 := cell_regrown g5
      have l5 := cell_regrown f5
      have k6 := cell_regrown g6
      have l6 := cell_regrown f6
      have k7 := cell_regrown g7
      have l7 := cell_regrown f7
      have cR : ∀ d os, Calls Tryz.prog 38 #[.agg #[.int .i64 e1, .int .i64 e2, .int .i64 e3, .int .i64 e4, .int .i64 e5, .int .i64 e6, .int .i64 e7, .int .i64 e8], .agg #[.int .i64 e1, .int .i64 e2, .int .i64 e3, .int .i64 e4, .int .i64 e5, .int .i64 e6, .int .i64 e7, .int .i64 e8]] (grow (redrawn wr d) os) fun e w'' => e = .returned (.bool true) ∧ ∃ p : Regrown, w'' = grow (redrawn wr p.d) p.os := fun d os => Calls.regrown_of (RSameEntry ((e1, e2), ((e3, e4), e5), (e6, e7), e8) (grow (redrawn wr d) os))
      clear g0 g1 g2 g3 g4 g5 g6 g7 f0 f1 f2 f3 f4 f5 f6 f7
      go_wp2_with fail
      go_cut [26] from 17 to 25 (fun s26 wy => Hid (s26 = .bool false ∧ Below wr.heap.size wr wy))
      case first =>
        refine wp_region_quiet_below (by kernel_rfl) (by kernel_rfl) ?_
        repeat (with_reducible refine wpQuiet_step (fun K hK => ?_); go_simp; first | (with_reducible refine hK _ ?_; clear hK K) | (apply Exists.intro; refine ⟨fun _ => ?_, hK _ ?_⟩; (go_at_call 38; exact cR _ _); clear hK K))
        with_reducible refine wpQuiet_nil ?_
        intro _ hw'
        obtain ⟨⟨dq, osq⟩, hw''⟩ := hw'
        subst hw''
        have HB := Lib.hid (below_regrown wr dq osq)
        clear cR k0 k1 k2 k3 k4 k5 k6 k7 l0 l1 l2 l3 l4 l5 l6 l7
        go_wp2_with fail
        go_meet
        exact Lib.hid ⟨rfl, HB.out⟩
      case rest =>
        obtain ⟨rfl, hbc⟩ := hcut.out
        have HB1 := Lib.hid (hw.out.trans (hbc.mono hw.out.size))
        clear hcut hbc cR k0 k1 k2 k3 k4 k5 k6 k7 l0 l1 l2 l3 l4 l5 l6 l7
        rename_i hK0
        with_reducible refine hK0 _ _ ?_
        clear hK0
        go_wp2
        go_roundg (xs.length - (k + 1))
        case measure => have := hk.out; omega
        case rel => exact ⟨k + 1, Lib.hid (by have := hk.out; omega), by go_num, HB1⟩
    · have hlt' : ¬ (k : Int) < (xs.length : Int) := by omega
      clear hk
      go_wp2
      go_ret
      exact ⟨rfl, hw.out⟩

theorem ILookup {B bw : Nat} {w0 w : World} {m : List EntM} (h : Built B bw w0 w m) (hml : ∀ e ∈ m, e.c.meths.length ≤ 40) {r : Nat} (hr : r < m.length) (hi : isIfaceM m (r : Int) = false) {q : Int × Int} (hq : q ∈ rootL m (clo m r)) :
    Calls Tryz.prog 37 #[.pointer (some ⟨bw, 0, none⟩), .int .i64 r, .agg #[.int .i64 q.1, .int .i64 q.2]] w fun e w' => e = .returned (.tuple #[.agg (etyCs (etyM m r q)).toArray, .int .i64 0]) ∧ Below w.heap.size w w' := by
  obtain ⟨x, hmx⟩ : ∃ x, methAt m q = some x := by
    obtain ⟨c, hc, k, hk, _, hm, _⟩ := root_mem h.wf h.ord hr hq
    exact ⟨_, hm⟩
  obtain ⟨wp, hwp⟩ : ∃ wp, (w.alloc (.cells #[.int .i64 q.1, .int .i64 q.2] 38)) = wp := ⟨_, rfl⟩
  obtain ⟨wz, hwz⟩ : ∃ wz, (wp.alloc (.cells #[.int .i64 0, .int .i64 0, .int .i64 0, .int .i64 0, .int .i64 0, .int .i64 0, .int .i64 0, .int .i64 0] 68)) = wz := ⟨_, rfl⟩
  have hbp : Below w.heap.size w wp := by rw [← hwp]; exact (Below.refl _ _).alloc (Nat.le_refl _) _
  have hbz : Below wp.heap.size wp wz := by rw [← hwz]; exact (Below.refl _ _).alloc (Nat.le_refl _) _
  have hsp : wp.heap.size = w.heap.size + 1 := by rw [← hwp]; simp
  have hsz : wz.heap.size = w.heap.size + 1 + 1 := by rw [← hwz]; simp [hsp]
  have CZ : Cells wz (w.heap.size + 1) [.int .i64 0, .int .i64 0, .int .i64 0, .int .i64 0, .int .i64 0, .int .i64 0, .int .i64 0, .int .i64 0] := by
    have := (show Cells wz wp.heap.size _ by rw [← hwz]; exact Cells.start wp [.int .i64 0, .int .i64 0, .int .i64 0, .int .i64 0, .int .i64 0, .int .i64 0, .int .i64 0, .int .i64 0] _)
    rwa [hsp] at this
  have CP : Cells wz w.heap.size [.int .i64 q.1, .int .i64 q.2] := (show Cells wp w.heap.size _ by rw [← hwp]; exact Cells.start w [.int .i64 q.1, .int .i64 q.2] _).below hbz (by omega)
  have hb : Below w.heap.size w wz := hbp.trans (hbz.mono (by omega))
  have HB := Lib.hid hb
  have HC := Lib.hid (And.intro CP (And.intro CZ (show w.heap.size + 1 < wz.heap.size by omega)))
  have HCL := Lib.hid (Class4 (h.next hb) hr)
  have HM := Lib.hid (fun wr (hr : Below w.heap.size w wr) => OMethod_some (h.next hr) hmx)
  have HR := Lib.hid (fun wr (hb : Below w.heap.size w wr) => by have := IRoots (h.next hb) hml (r : Int); rw [rootM_ok hr hi] at this; exact this)
  have HLN : Hid ((rootL m (clo m r)).length ≤ 12040) := Lib.hid (by have := rootM_len h.wf h.ord hml (r : Int); rw [rootM_ok hr hi] at this; exact this)
  have HE := Lib.hid (fun wr (hb : Below w.heap.size w wr) => IEntry (h.next hb) (r : Int) q)
  have HCT : Hid ((rootL m (clo m r)).contains q = true) := Lib.hid (by simpa using hq)
  have HWE := Lib.hid (And.intro hwp hwz)
  unfold etyM at HE ⊢
  obtain ⟨⟨⟨i1, i2⟩, i3⟩, hRI⟩ : ∃ R, itfM m r q = R := ⟨_, rfl⟩
  obtain ⟨⟨⟨y1, y2⟩, y3⟩, hRV⟩ : ∃ R, virM m r q = R := ⟨_, rfl⟩
  rw [hRI, hRV] at HE ⊢
  obtain ⟨L, hL⟩ : ∃ L, rootL m (clo m r) = L := ⟨_, rfl⟩
  rw [hL] at HR HLN HCT
  dsimp only at HR
  clear h hbp hbz hsp hsz CZ CP hb hRI hRV hwp hwz hq hmx hL hi
  go_enter Tryz.func37, Tryz.ntmps37
  go_wp2_with fail
  rw [HWE.out.1, HWE.out.2]
  clear HWE
  refine HCL.out.mono ?_
  rintro _ w1 ⟨v0, v1, ia, ma, il, ic, mc, cf, cl, rfl, _, hb⟩
  obtain ⟨wx, hwx⟩ : ∃ wx, (w1.alloc (.cells #[.string v0, .string v1, .slice ia il ic, .int .i64 cf, .int .i64 cl, .slice ma (clsAt m r).meths.length mc] 26)) = wx := ⟨_, rfl⟩
  have hbx : Below w1.heap.size w1 wx := by rw [← hwx]; exact (Below.refl _ _).alloc (Nat.le_refl _) _
  have hb' := hb.trans (hbx.mono hb.size)
  have HB1 := Lib.hid (HB.out.trans (hb'.mono HB.out.size))
  have HC1 := Lib.hid (And.intro (HC.out.1.below hb' (by have := HC.out.2.2; omega)) (And.intro (HC.out.2.1.below hb' HC.out.2.2) (show w.heap.size + 1 < wx.heap.size by have := hb'.size; have := HC.out.2.2; omega)))
  have p0 : wx.cell? ⟨w.heap.size, 0, none⟩ = some (.int .i64 q.1) := HC1.out.1.1 0 (by simp)
  have p1 : wx.cell? ⟨w.heap.size, 1, none⟩ = some (.int .i64 q.2) := HC1.out.1.1 1 (by simp)
  have HMX := Lib.hid (HM.out wx HB1.out)
  clear hb hbx hb' HCL HM HB HC
  go_wp2_with fail
  try rw [hwx]
  clear hwx
  refine HMX.out.mono ?_
  rintro _ w2 ⟨ad, sl, sc, rfl, hb⟩
  obtain ⟨wy, hwy⟩ : ∃ wy, (w2.alloc (.cells #[.string x.name, .string x.desc, .int .i64 x.flags, .int .i64 x.locals, .int .i64 x.stack, .slice ad sl sc] 55)) = wy := ⟨_, rfl⟩
  have hby : Below w2.heap.size w2 wy := by rw [← hwy]; exact (Below.refl _ _).alloc (Nat.le_refl _) _
  have hb' := hb.trans (hby.mono hb.size)
  have HB2 := Lib.hid (HB1.out.trans (hb'.mono HB1.out.size))
  have HC2 := Lib.hid (And.intro (HC1.out.1.below hb' (by have := HC1.out.2.2; omega)) (And.intro (HC1.out.2.1.below hb' HC1.out.2.2) (show w.heap.size + 1 < wy.heap.size by have := hb'.size; have := HC1.out.2.2; omega)))
  have HRX := Lib.hid (HR.out wy HB2.out)
  clear hb hby hb' HMX HR HB1 HC1 p0 p1
  go_wp2_with fail
  try rw [hwy]
  clear hwy
  refine HRX.out.mono ?_
  rintro _ w3 ⟨ra, rc, rfl, hrow, hb⟩
  have HB3 := Lib.hid (HB2.out.trans (hb.mono HB2.out.size))
  have HC3 := Lib.hid (And.intro (HC2.out.1.below hb (by have := HC2.out.2.2; omega)) (And.intro (HC2.out.2.1.below hb HC2.out.2.2) (show w.heap.size + 1 < w3.heap.size by have := hb.size; have := HC2.out.2.2; omega)))
  have HS3 : IdSl (fun b => b < w3.heap.size) w3 (.slice ra L.length rc) L := Sl.of_own (css := L.map idCells) hrow (by simp) rfl (by intro cs h; obtain ⟨p, _, rfl⟩ := List.mem_map.1 h; rfl) (fun i h => by rw [List.getElem_map]; rfl) (by have := HLN.out; omega) _ (fun b hb => (own_live hrow hb).2)
  have HCN := ContV q HS3
  rw [HCT.out] at HCN
  have HCX := Lib.hid HCN
  have p0 : w3.cell? ⟨w.heap.size, 0, none⟩ = some (.int .i64 q.1) := HC3.out.1.1 0 (by simp)
  have p1 : w3.cell? ⟨w.heap.size, 1, none⟩ = some (.int .i64 q.2) := HC3.out.1.1 1 (by simp)
  clear hb hrow HRX HB2 HC2 HS3 HCN
  go_wp2_with fail
  refine HCX.out.mono ?_
  rintro _ w4 ⟨rfl, hb⟩
  have HB4 := Lib.hid (HB3.out.trans (hb.mono HB3.out.size))
  have HC4 := Lib.hid (And.intro (HC3.out.1.below hb (by have := HC3.out.2.2; omega)) (And.intro (HC3.out.2.1.below hb HC3.out.2.2) (show w.heap.size + 1 < w4.heap.size by have := hb.size; have := HC3.out.2.2; omega)))
  have HEX := Lib.hid (HE.out w4 HB4.out)
  clear hb HCX HB3 HC3 p0 p1 HE
  have p0 : w4.cell? ⟨w.heap.size, 0, none⟩ = some (.int .i64 q.1) := HC4.out.1.1 0 (by simp)
  have p1 : w4.cell? ⟨w.heap.size, 1, none⟩ = some (.int .i64 q.2) := HC4.out.1.1 1 (by simp)
  go_wp2_with fail
  refine HEX.out.mono ?_
  rintro _ w5 ⟨rfl, hb⟩
  rw [show (etyCs (q, ((i1, i2), i3), (y1, y2), y3)).toArray = #[.int .i64 q.1, .int .i64 q.2, .int .i64 i1, .int .i64 i2, .int .i64 i3, .int .i64 y1, .int .i64 y2, .int .i64 y3] from rfl]
  have HB5 := Lib.hid (HB4.out.trans (hb.mono HB4.out.size))
  have CZ5 := HC4.out.2.1.below hb HC4.out.2.2
  clear hb HEX HB4 HC4 p0 p1
  have z0 : w5.cell? ⟨w.heap.size + 1, 0, none⟩ = some (.int .i64 0) := CZ5.1 0 (by simp)
  have z1 : w5.cell? ⟨w.heap.size + 1, 1, none⟩ = some (.int .i64 0) := CZ5.1 1 (by simp)
  have z2 : w5.cell? ⟨w.heap.size + 1, 2, none⟩ = some (.int .i64 0) := CZ5.1 2 (by simp)
  have z3 : w5.cell? ⟨w.heap.size + 1, 3, none⟩ = some (.int .i64 0) := CZ5.1 3 (by simp)
  have z4 : w5.cell? ⟨w.heap.size + 1, 4, none⟩ = some (.int .i64 0) := CZ5.1 4 (by simp)
  have z5 : w5.cell? ⟨w.heap.size + 1, 5, none⟩ = some (.int .i64 0) := CZ5.1 5 (by simp)
  have z6 : w5.cell? ⟨w.heap.size + 1, 6, none⟩ = some (.int .i64 0) := CZ5.1 6 (by simp)
  have z7 : w5.cell? ⟨w.heap.size + 1, 7, none⟩ = some (.int .i64 0) := CZ5.1 7 (by simp)
  have fz : ∀ j, w5.frozen? ⟨w.heap.size + 1, j, none⟩ = false := CZ5.2
  have HC5 := Lib.hid CZ5
  clear CZ5
  go_wp2
  refine bodyPost_ret (results_cells_tmp rfl _ _ (w.heap.size + 1) [.int .i64 q.1, .int .i64 q.2, .int .i64 i1, .int .i64 i2, .int .i64 i3, .int .i64 y1, .int .i64 y2, .int .i64 y3] _ rfl ?cs Tryz.underlying68 rfl ety_info) rfl ⟨rfl, ?_⟩
  case cs =>
    refine Cells.out ?_
    exact (((((((HC5.out.set (i := 0) (by simp) _).set (i := 1) (by simp) _).set (i := 2) (by simp) _).set (i := 3) (by simp) _).set (i := 4) (by simp) _).set (i := 5) (by simp) _).set (i := 6) (by simp) _).set (i := 7) (by simp) _
  · exact (((((((HB5.out.setCell (by simp only; omega) _).setCell (by simp only; omega) _).setCell (by simp only; omega) _).setCell (by simp only; omega) _).setCell (by simp only; omega) _).setCell (by simp only; omega) _).setCell (by simp only; omega) _).setCell (by simp only; omega) _
end Go.Proofs.YtipinmbpdgjalaaGreatDoor.Hi
