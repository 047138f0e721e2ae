/- What extends what; chains. -/
import Derived.Test.YtmpkdgankficeaaDoorDe
set_option maxRecDepth 100000
set_option maxHeartbeats 400000
set_option linter.unusedVariables false
set_option linter.unusedSimpArgs false
namespace Go.Proofs.YtmpkdgankficeaaDoor.Hi
open Go.RowKit Bs

/-- The class above a whose depth is at most fd. -/
def upM (m : List EntM) (fd : Int) : Nat → Int → Int
  | 0, a => a
  | k + 1, a => match entAt m a with
    | some e => if fd < e.depth then upM m fd k e.above else a
    | none => a
/-- Is b above a, or a itself? -/
def extM (m : List EntM) (a b : Int) : Bool := match entAt m a, entAt m b with
  | some e, some f => if Pr.isIfc f.c = true then (a == b) || e.closure.contains b else upM m f.depth e.depth.toNat a == b
  | _, _ => false

theorem upM_stop {m : List EntM} {fd a : Int} {e : EntM} (he : entAt m a = some e) (h : ¬ fd < e.depth) : ∀ k, upM m fd k a = a
  | 0 => rfl
  | k + 1 => by unfold upM; rw [he]; simp only; rw [if_neg h]
theorem upM_go {m : List EntM} {fd a : Int} {e : EntM} (he : entAt m a = some e) (h : fd < e.depth) (k : Nat) : upM m fd (k + 1) a = upM m fd k e.above := by
  show (match entAt m a with | some e => if fd < e.depth then upM m fd k e.above else a | none => a) = _
  rw [he]; simp only; rw [if_pos h]

theorem ents {S : Nat → Prop} {bw : Nat} {w : World} {m : List EntM} (h : HW S bw w m) : ∃ ga cap, w.cell? ⟨bw, 0, none⟩ = some (.slice ga m.length cap) ∧
    ∀ i (hi : i < m.length), ∃ g be ia ic ma mc ca cc, ga = some ⟨g, 0, none⟩ ∧ w.cell? ⟨g, i, none⟩ = some (.pointer (some ⟨be, 0, none⟩)) ∧ Ent9 S w be m[i] ia ic ma mc ca cc := by
  obtain ⟨ga, cap, h1, h2⟩ := h.all
  refine ⟨ga, cap, h1, fun i hi => ?_⟩
  obtain ⟨g, be, e1, e2, e3⟩ := h2 i hi
  obtain ⟨ia, ic, ma, mc, ca, cc, h9⟩ := e3.nine
  exact ⟨g, be, ia, ic, ma, mc, ca, cc, e1, e2, h9⟩

theorem contains_ints {S : Nat → Prop} {w : World} {a : Option Addr} {c : Nat} {xs : List Int} (x : Int) (h : IntSl S w (.slice a xs.length c) xs) :
    Calls Tryd.prog 41 #[.slice a xs.length c, .int .i64 x] w fun e w' => e = .returned (.bool (xs.contains x)) ∧ w = w' := by
  obtain ⟨a', c', hf, h2, h3, h4⟩ := h.cells
  injection hf with f1 f2 f3
  subst f1; subst f3
  rcases h4 with rfl | ⟨b, o, rfl, _, h4⟩
  · refine (Tryd.slices_Contains_int_empty a c x w).mono ?_
    rintro e w' ⟨rfl, rfl⟩
    exact ⟨rfl, rfl⟩
  · refine (Tryd.slices_Contains_int b o xs.length c xs x w (Nat.le_refl _) (by omega) fun j hj => ?_).mono ?_
    · rw [(h4 j hj).1]; simp [List.getD, hj]
    · rintro e w' ⟨rfl, rfl⟩
      exact ⟨by rw [List.take_length], rfl⟩

theorem Extends {S : Nat → Prop} {bw : Nat} {w : World} {m : List EntM} (h : HW S bw w m) (hS : ∀ k, S k → k < w.heap.size) (a b : Int) :
    Calls Tryd.prog 16 #[.pointer (some ⟨bw, 0, none⟩), .int .i64 a, .int .i64 b] w fun r w' => r = .returned (.bool (extM m a b)) ∧ Below w.heap.size w w' := by
  cases he : entAt m a with
  | none =>
    have G : Hid (extM m a b = false) := Lib.hid (by unfold extM; rw [he])
    cases hf : entAt m b with
    | none =>
      go_enter Tryd.func16, Tryd.ntmps16
      go_wp2_with fail
      refine (at_out h he).mono ?_
      rintro e w' ⟨rfl, rfl⟩
      go_wp2_with fail
      refine (at_out h hf).mono ?_
      rintro e w' ⟨rfl, rfl⟩
      go_wp2
      go_ret
      exact ⟨by rw [G.out]; rfl, Below.refl _ _⟩
    | some f =>
      obtain ⟨be, ia, ic, ma, mc, ca, cc, h9, hc⟩ := at_in h hf
      go_enter Tryd.func16, Tryd.ntmps16
      go_wp2_with fail
      refine (at_out h he).mono ?_
      rintro e w' ⟨rfl, rfl⟩
      go_wp2_with fail
      refine hc.mono ?_
      rintro e w' ⟨rfl, rfl⟩
      go_wp2
      go_ret
      exact ⟨by rw [G.out]; rfl, Below.refl _ _⟩
  | some e =>
    obtain ⟨be, ia, ic, ma, mc, ca, cc, h9, hc⟩ := at_in h he
    cases hf : entAt m b with
    | none =>
      have G : Hid (extM m a b = false) := Lib.hid (by unfold extM; rw [he, hf])
      go_enter Tryd.func16, Tryd.ntmps16
      go_wp2_with fail
      refine hc.mono ?_
      rintro e w' ⟨rfl, rfl⟩
      go_wp2_with fail
      refine (at_out h hf).mono ?_
      rintro e w' ⟨rfl, rfl⟩
      go_wp2
      go_ret
      exact ⟨by rw [G.out]; rfl, Below.refl _ _⟩
    | some f =>
      obtain ⟨bf, ia', ic', ma', mc', ca', cc', h9', hc'⟩ := at_in h hf
      have HEX : Hid (extM m a b = if Pr.isIfc f.c = true then (a == b) || e.closure.contains b else upM m f.depth e.depth.toNat a == b) := Lib.hid (by unfold extM; rw [he, hf])
      have k0 := h9'.k0
      have k1 := h9'.k1
      have k2 := h9'.k2
      have k3 := h9'.k3
      have k4 := h9'.k4
      have k5 := h9'.k5
      have HI := Lib.hid (Iface (.string f.c.name) (.string f.c.super) (.slice ia' f.c.ifaces.length ic') (.int .i64 f.c.loader) (.slice ma' f.c.meths.length mc') f.c.flags)
      have hI : (bits .and .i64 f.c.flags 512 != 0) = Pr.isIfc f.c := rfl
      rw [hI] at HI
      clear hI
      obtain ⟨ifc, hifc⟩ : ∃ ifc, Pr.isIfc f.c = ifc := ⟨_, rfl⟩
      rw [hifc] at HI HEX
      clear hifc
      have HH := Lib.hid h
      have HS := Lib.hid hS
      have H9 := Lib.hid h9
      have H9' := Lib.hid h9'
      have HWF := Lib.hid h.wf
      obtain ⟨i, hai, hi, hei⟩ := entAt_some he
      obtain ⟨j, hbj, hj, hfj⟩ := entAt_some hf
      have HE := Lib.hid he
      have HEI : Hid (a = i ∧ m[i] = e ∧ b = j ∧ m[j] = f) := Lib.hid ⟨hai, hei, hbj, hfj⟩
      clear h h9 h9' hS he hf hai hei hbj hfj
      go_enter Tryd.func16, Tryd.ntmps16
      go_wp2_with fail
      refine hc.mono ?_
      rintro _ w' ⟨rfl, rfl⟩
      go_wp2_with fail
      refine hc'.mono ?_
      rintro _ w' ⟨rfl, rfl⟩
      go_wp2_with fail
      refine (HI.out _).mono ?_
      rintro _ w1 ⟨rfl, hb1⟩
      clear k0 k1 k2 k3 k4 k5 HI hc hc'
      have HB1 := Lib.hid hb1
      cases ifc
      · have k7 := below_cell' hb1 H9'.out.k7
        have q7 := below_cell' hb1 H9.out.k7
        have HH1 := Lib.hid (HH.out.alike hb1.size (Alike.of_below hb1 HS.out))
        clear hb1
        obtain ⟨ga, cap, hga, hents⟩ := ents HH1.out
        have HEN := Lib.hid hents
        have HR : Hid (extM m a b = (upM m f.depth e.depth.toNat a == b)) := Lib.hid (HEX.out.trans (if_neg (by simp)))
        have HD : Hid (0 ≤ f.depth) := Lib.hid (by rw [← HEI.out.2.2.2]; exact (HWF.out.depth j hj).1)
        obtain ⟨R, hRR⟩ : ∃ R, upM m f.depth e.depth.toNat a = R := ⟨_, rfl⟩
        have HR0 : Hid (upM m f.depth m[i].depth.toNat i = R) := Lib.hid (by rw [← hRR, HEI.out.1, HEI.out.2.1])
        have hq7 : w1.cell? ⟨be, 7, none⟩ = some (.int .i64 m[i].depth) := by rw [HEI.out.2.1]; exact q7
        have HQ7 := Lib.hid hq7
        rw [hRR] at HR
        have ha0 := HEI.out.1
        have HB0 : Hid (∃ x, ga = some ⟨x, 0, none⟩) := Lib.hid (by
          obtain ⟨g, _, _, _, _, _, _, _, e1, _⟩ := hents i hi
          exact ⟨g, e1⟩)
        obtain ⟨g, rfl⟩ := HB0.out
        have HGA := Lib.hid hga
        clear hents hq7 hRR q7 HB0
        go_wp2_with fail
        clear ha0
        go_loopg [1, 7] m[i].depth.toNat (fun gk u1 u7 wr => ∃ (k : Nat) (hk : k < m.length) (bk : Nat), Hid (gk = m[k].depth.toNat ∧ upM m f.depth gk k = R ∧ w1.cell? ⟨bk, 7, none⟩ = some (.int .i64 m[k].depth) ∧ w1.cell? ⟨bk, 6, none⟩ = some (.int .i64 m[k].above)) ∧ u1 = .int .i64 k ∧ u7 = .pointer (some ⟨bk, 0, none⟩) ∧ Hid (Below w1.heap.size w1 wr ∧ wr.heap = w1.heap))
        case atStart => exact ⟨i, hi, be, Lib.hid ⟨rfl, HR0.out, HQ7.out, by rw [HEI.out.2.1]; exact below_cell' HB1.out H9.out.k6⟩, rfl, rfl, Lib.hid ⟨Below.refl _ _, rfl⟩⟩
        case round =>
          clear hga k7
          obtain ⟨k, hk, bk, HK, rfl, rfl, HW⟩ := hrel
          obtain ⟨g', bk', x1, x2, x3, x4, x5, x6, y1, y2, y3⟩ := HEN.out k hk
          have cw : ∀ p : Addr, wr.cell? p = w1.cell? p := fun p => World.cell?_of_block (by rw [HW.out.2])
          have c7 : wr.cell? ⟨bk, 7, none⟩ = some (.int .i64 m[k].depth) := (cw _).trans HK.out.2.2.1
          have c6 : wr.cell? ⟨bk, 6, none⟩ = some (.int .i64 m[k].above) := (cw _).trans HK.out.2.2.2
          have f7 : wr.cell? ⟨bf, 7, none⟩ = some (.int .i64 f.depth) := (cw _).trans (below_cell' HB1.out H9'.out.k7)
          have HBR : Hid (Below w.heap.size w wr) := Lib.hid (HB1.out.trans (HW.out.1.mono HB1.out.size))
          clear y1 y2 y3
          by_cases hd : f.depth < m[k].depth
          · have hd' : decide (f.depth < m[k].depth) = true := decide_eq_true hd
            obtain ⟨p, hp⟩ : ∃ p : Nat, m[k].above = p := by
              have h1 := HWF.out.above k hk
              have h2 := HWF.out.depth k hk
              have h3 := HD.out
              refine ⟨m[k].above.toNat, ?_⟩
              by_cases hk0 : k = 0
              · have := h2.2.2.2 hk0; omega
              · have := h1.2.2; omega
            have hpk : p < k := by have := (HWF.out.above k hk).2.1; omega
            have hpl : (p : Int) < (m.length : Int) := by omega
            obtain ⟨g'', bp, x1, x2, x3, x4, x5, x6, y1, y2, y3⟩ := HEN.out p (by omega)
            injection y1 with y1
            injection y1 with y1
            subst y1
            have gp : wr.cell? ⟨g, p, none⟩ = some (.pointer (some ⟨bp, 0, none⟩)) := (cw _).trans y2
            have hgr : wr.cell? ⟨bw, 0, none⟩ = some (.slice (some ⟨g, 0, none⟩) m.length cap) := (cw _).trans HGA.out
            have HNX : Hid (m[p].depth.toNat < gk ∧ upM m f.depth m[p].depth.toNat p = R ∧ w1.cell? ⟨bp, 7, none⟩ = some (.int .i64 m[p].depth) ∧ w1.cell? ⟨bp, 6, none⟩ = some (.int .i64 m[p].above)) := Lib.hid (by
              have h2 := (HWF.out.depth k hk).2.2.1 p (by omega) hp
              have h3 := (HWF.out.depth p (by omega)).1
              have e1 : gk = m[p].depth.toNat + 1 := by rw [HK.out.1]; omega
              refine ⟨by omega, ?_, y3.k7, y3.k6⟩
              rw [← HK.out.2.1, e1, upM_go (entAt_nat hk) hd, hp])
            rw [hp] at c6
            clear cw y2 y3 hp hd
            generalize m[k].depth = dk at c7 hd'
            go_wp2_with fail
            go_quiet (fail)
            go_wp2
            go_roundg m[p].depth.toNat
            case measure => exact HNX.out.1
            case rel => exact ⟨p, by omega, bp, Lib.hid ⟨rfl, HNX.out.2⟩, rfl, rfl, Lib.hid ⟨below_drewN HW.out.1 _, HW.out.2⟩⟩
          · have hd' : decide (f.depth < m[k].depth) = false := decide_eq_false hd
            have G : Hid (extM m a b = ((k : Int) == b)) := Lib.hid (by
              rw [HR.out, ← HK.out.2.1, upM_stop (entAt_nat hk) hd])
            clear cw c6 hd
            generalize m[k].depth = dk at c7 hd'
            obtain ⟨y, hy⟩ : ∃ y, ((k : Int) == b) = y := ⟨_, rfl⟩
            rw [hy] at G
            go_wp2_with fail
            go_quiet (fail)
            go_wp2
            go_ret
            exact ⟨by rw [G.out]; rfl, below_drewN HBR.out _⟩
      · have q8 := below_cell' hb1 H9.out.k8
        have HC := Lib.hid (contains_ints b (H9.out.clo.alike (Alike.of_below hb1 HS.out)))
        clear hb1
        by_cases hab : a = b
        · have hab' : (a == b) = true := by simpa using hab
          have G : Hid (extM m a b = true) := Lib.hid (by rw [HEX.out, if_pos rfl, hab']; rfl)
          clear hab
          go_wp2
          go_ret
          exact ⟨by rw [G.out]; rfl, HB1.out⟩
        · have hab' : (a == b) = false := by simpa using hab
          have G : Hid (extM m a b = e.closure.contains b) := Lib.hid (by rw [HEX.out, if_pos rfl, hab']; rfl)
          clear hab
          generalize e.closure.contains b = cv at HC G
          go_wp2_with fail
          refine HC.out.mono ?_
          rintro _ w' ⟨rfl, rfl⟩
          go_wp2
          go_ret
          exact ⟨by rw [G.out]; rfl, HB1.out⟩
end Go.Proofs.YtmpkdgankficeaaDoor.Hi
