/- Shapes: a class. -/
import Derived.Test.YtmpkdgankficeaaDoorSd
set_option maxRecDepth 100000
set_option maxHeartbeats 4000000
set_option linter.unusedVariables false
set_option linter.unusedSimpArgs false
namespace Go.Proofs.YtmpkdgankficeaaDoor.Pr
open Go.RowKit Bs Hi

/-- Is it an interface? -/
def isIfc (c : ClsM) : Bool := bits .and .i64 c.flags 512 != 0
def methOk (c : ClsM) (k : Nat) : Bool := match c.meths[k]? with
  | some m => methodB m (isIfc c) && decide (findM c.meths m.name m.desc = k)
  | none => true
/-- Is the class sound? -/
def chk (c : ClsM) : Bool := decide (c.meths.length ≤ 40) && decide (c.ifaces.length ≤ 20) && headerB c && (List.range c.meths.length).all (methOk c)

theorem Check5 (S : Nat → Prop) (c : ClsM) (cs : List Value) (w : World) (hc : ClsIs S w cs c) (hS : ∀ k, S k → k < w.heap.size) (he : Lf.Env w) :
    Calls Tryd.prog 35 #[.agg cs.toArray] w fun e w' => e = .returned (.int .i64 (formE (chk c))) ∧ Below w.heap.size w w' := by
  obtain ⟨iv, mv, rfl, p1, p2, hi, p3, p4, hm⟩ := hc
  have hi' := hi
  have hm' := hm
  obtain ⟨ia, ic, rfl, il, ib, _⟩ := hi'
  obtain ⟨ma, mc, rfl, ml, mb, _⟩ := hm'
  have HE := Lib.hid he
  have HS := Lib.hid hS
  have HM := Lib.hid hm
  have HH := Lib.hid (fun (w' : World) (h : Below w.heap.size w w') => header S c ia ic (.slice ma c.meths.length mc) w' p1 p2 (hi.alike (Alike.of_below h hS)) (fun k hk => Nat.lt_of_lt_of_le (hS k hk) h.size) (he.below h))
  have HF := Lib.hid (fun (w' : World) (h : Below w.heap.size w w') (n d : ByteArray) => Find S c.meths ma mc n d w' (.string c.name) (.string c.super) (.slice ia c.ifaces.length ic) (.int .i64 c.flags) (.int .i64 c.loader) (hm.alike (Alike.of_below h hS)) (fun k hk => Nat.lt_of_lt_of_le (hS k hk) h.size))
  obtain ⟨R, hR⟩ : ∃ R, chk c = R := ⟨_, rfl⟩
  have HR : Hid (R = (decide (c.meths.length ≤ 40) && decide (c.ifaces.length ≤ 20) && headerB c && (List.range c.meths.length).all (methOk c))) := Lib.hid hR.symm
  rw [show [Value.string c.name, .string c.super, .slice ia c.ifaces.length ic, .int .i64 c.flags, .int .i64 c.loader, .slice ma c.meths.length mc].toArray = #[Value.string c.name, .string c.super, .slice ia c.ifaces.length ic, .int .i64 c.flags, .int .i64 c.loader, .slice ma c.meths.length mc] from rfl]
  rw [hR]
  have hce : ∀ j : Nat, (w.alloc (.cells #[Value.string c.name, .string c.super, .slice ia c.ifaces.length ic, .int .i64 c.flags, .int .i64 c.loader, .slice ma c.meths.length mc] 32)).cell? ⟨w.heap.size, j, none⟩ = (#[Value.string c.name, .string c.super, .slice ia c.ifaces.length ic, .int .i64 c.flags, .int .i64 c.loader, .slice ma c.meths.length mc])[j]? := fun j => World.cell?_alloc_new ..
  have HCE := Lib.hid hce
  have HBA : Hid (Below w.heap.size w (w.alloc (.cells #[Value.string c.name, .string c.super, .slice ia c.ifaces.length ic, .int .i64 c.flags, .int .i64 c.loader, .slice ma c.meths.length mc] 32))) := Lib.hid ((Below.refl _ _).alloc (Nat.le_refl _) _)
  clear hi hm hS he hR p1 p2 p3 p4 hce
  obtain ⟨y1, hy1⟩ : ∃ y, decide ((c.meths.length : Int) ≤ 40) = y := ⟨_, rfl⟩
  obtain ⟨y2, hy2⟩ : ∃ y, decide ((c.ifaces.length : Int) ≤ 20) = y := ⟨_, rfl⟩
  have HR1 : Hid (R = (y1 && y2 && headerB c && (List.range c.meths.length).all (methOk c))) := Lib.hid (by
    have a1 : decide (c.meths.length ≤ 40) = decide ((c.meths.length : Int) ≤ 40) := by rw [Bool.eq_iff_iff]; simp only [decide_eq_true_eq]; omega
    have a2 : decide (c.ifaces.length ≤ 20) = decide ((c.ifaces.length : Int) ≤ 20) := by rw [Bool.eq_iff_iff]; simp only [decide_eq_true_eq]; omega
    rw [HR.out, a1, a2, hy1, hy2])
  clear HR
  generalize headerB c = hb at HH HR1
  have z1 : decide ((40 : Int) < (c.meths.length : Int)) = !y1 := by rw [← hy1, Bool.eq_iff_iff]; simp
  have z2 : decide ((20 : Int) < (c.ifaces.length : Int)) = !y2 := by rw [← hy2, Bool.eq_iff_iff]; simp
  cases y1
  · have G : Hid (R = false) := Lib.hid (by rw [HR1.out]; rfl)
    go_enter Tryd.func35, Tryd.ntmps35
    go_wp2
    go_ret
    exact ⟨by rw [G.out]; rfl, HBA.out⟩
  cases y2
  · have G : Hid (R = false) := Lib.hid (by rw [HR1.out]; rfl)
    go_enter Tryd.func35, Tryd.ntmps35
    go_wp2
    go_ret
    exact ⟨by rw [G.out]; rfl, HBA.out⟩
  go_enter Tryd.func35, Tryd.ntmps35
  go_wp2_with fail
  refine (HH.out _ HBA.out).mono ?_
  rintro e w1 ⟨rfl, hb1⟩
  have cel : ∀ {j : Nat} {v : Value}, (#[Value.string c.name, .string c.super, .slice ia c.ifaces.length ic, .int .i64 c.flags, .int .i64 c.loader, .slice ma c.meths.length mc])[j]? = some v → w1.cell? ⟨w.heap.size, j, none⟩ = some v := fun h => below_cell' hb1 ((HCE.out _).trans h)
  have c0 : w1.cell? ⟨w.heap.size, 0, none⟩ = some (.string c.name) := cel (j := 0) rfl
  have c1 : w1.cell? ⟨w.heap.size, 1, none⟩ = some (.string c.super) := cel (j := 1) rfl
  have c2 : w1.cell? ⟨w.heap.size, 2, none⟩ = some (.slice ia c.ifaces.length ic) := cel (j := 2) rfl
  have c3 : w1.cell? ⟨w.heap.size, 3, none⟩ = some (.int .i64 c.flags) := cel (j := 3) rfl
  have c4 : w1.cell? ⟨w.heap.size, 4, none⟩ = some (.int .i64 c.loader) := cel (j := 4) rfl
  have c5 : w1.cell? ⟨w.heap.size, 5, none⟩ = some (.slice ma c.meths.length mc) := cel (j := 5) rfl
  have HB1 : Hid (Below w.heap.size w w1) := Lib.hid (HBA.out.trans (hb1.mono HBA.out.size))
  clear cel hb1 HCE HBA HH
  cases hb
  · have G : Hid (R = false) := Lib.hid (by rw [HR1.out]; rfl)
    go_wp2
    go_ret
    exact ⟨by rw [G.out]; rfl, HB1.out⟩
  have HC6 := Lib.hid (fun (w' : World) (h : Below w1.heap.size w1 w') => (⟨below_cell' h c0, below_cell' h c1, below_cell' h c2, below_cell' h c3, below_cell' h c4, below_cell' h c5⟩ : w'.cell? ⟨w.heap.size, 0, none⟩ = some (.string c.name) ∧ w'.cell? ⟨w.heap.size, 1, none⟩ = some (.string c.super) ∧ w'.cell? ⟨w.heap.size, 2, none⟩ = some (.slice ia c.ifaces.length ic) ∧ w'.cell? ⟨w.heap.size, 3, none⟩ = some (.int .i64 c.flags) ∧ w'.cell? ⟨w.heap.size, 4, none⟩ = some (.int .i64 c.loader) ∧ w'.cell? ⟨w.heap.size, 5, none⟩ = some (.slice ma c.meths.length mc)))
  have HR2 : Hid (R = (List.range c.meths.length).all (methOk c)) := Lib.hid (by rw [HR1.out]; rfl)
  clear HR1
  go_wp2_with fail
  go_loopg [23] c.meths.length (fun gk u wr => ∃ k : Nat, Hid (k + gk = c.meths.length ∧ ∀ j, j < k → methOk c j = true) ∧ u = .int .i64 k ∧ Hid (Below w1.heap.size w1 wr))
  case atStart => exact ⟨0, Lib.hid ⟨Nat.zero_add _, fun j hj => by omega⟩, rfl, Lib.hid (Below.refl _ _)⟩
  case round =>
    obtain ⟨k, hk, rfl, hB⟩ := hrel
    clear c0 c1 c2 c3 c4 c5
    have HBW : Hid (Below w.heap.size w wr) := Lib.hid (HB1.out.trans (hB.out.mono HB1.out.size))
    by_cases hlt : k < c.meths.length
    · have hlt' : (k : Int) < (c.meths.length : Int) := by omega
      obtain ⟨a', c', hf, hle, hby, hcells⟩ := HM.out
      injection hf with hf1 hf2 hf3
      subst hf1; subst hf3
      rcases hcells with hnil | ⟨b, o, rfl, hSb, hcell⟩
      · rw [hnil] at hlt; simp at hlt
      obtain ⟨cs, hcl, hcs, hR⟩ := hcell k hlt
      have hR' := hR
      obtain ⟨cv, rfl, i1, i2, i3, i4, i5, i6⟩ := hR'
      obtain ⟨ca, cc, rfl, _, _, _⟩ := i6
      have HBAD : Hid (methOk c k = false → R = false) := Lib.hid fun h => by
        rw [HR2.out, List.all_eq_false]
        exact ⟨k, List.mem_range.2 hlt, by rw [h]; simp⟩
      have HNEXT : Hid (methOk c k = true → ∀ j, j < k + 1 → methOk c j = true) := Lib.hid fun h j hj => by
        by_cases e : j = k
        · subst e; exact h
        · exact hk.out.2 j (by omega)
      have HOK : Hid (methOk c k = (methodB c.meths[k] (isIfc c) && decide (findM c.meths c.meths[k].name c.meths[k].desc = k))) := Lib.hid (by unfold methOk; rw [List.getElem?_eq_getElem hlt])
      have hbs := HS.out b hSb
      have cel : ∀ {j : Nat} {v : Value}, w.cell? ⟨b, j, none⟩ = some v → wr.cell? ⟨b, j, none⟩ = some v := fun hv => (World.cell?_of_block (w := w) (HBW.out.block b hbs)).trans hv
      have g0 := cel (hcs 0 (by simp))
      have g1 := cel (hcs 1 (by simp))
      have g2 := cel (hcs 2 (by simp))
      have g3 := cel (hcs 3 (by simp))
      have g4 := cel (hcs 4 (by simp))
      have g5 := cel (hcs 5 (by simp))
      simp only [List.getElem_cons_zero, List.getElem_cons_succ, Nat.add_zero] at g0 g1 g2 g3 g4 g5
      have HX : Hid (∀ w', Below w.heap.size w w' → Calls Tryd.prog 55 #[.agg #[.string c.meths[k].name, .string c.meths[k].desc, .int .i64 c.meths[k].flags, .int .i64 c.meths[k].locals, .int .i64 c.meths[k].stack, .slice ca c.meths[k].code.length cc], .bool (isIfc c)] w' fun e w'' => e = .returned (.bool (methodB c.meths[k] (isIfc c))) ∧ Below w'.heap.size w' w'') := Lib.hid fun w' h =>
        method S c.meths[k] (isIfc c) ca cc w' (hR.alike (Alike.of_below h HS.out)) (fun k hk => Nat.lt_of_lt_of_le (HS.out k hk) h.size) (HE.out.below h)
      have HFI := Lib.hid (fun (w' : World) (h : Below w.heap.size w w') => HF.out w' h c.meths[k].name c.meths[k].desc)
      have HTY : Hid ((bits .and .i64 c.flags 512 != 0) = isIfc c) := Lib.hid rfl
      clear hcs cel hcell i1 i2 i3 i4 i5 hcl hR
      generalize c.meths[k] = m at g0 g1 g2 g3 g4 g5 HX HFI HOK
      generalize isIfc c = fi at HX HOK HTY
      generalize methodB m fi = mb at HX HOK
      generalize findM c.meths m.name m.desc = fk at HFI HOK
      generalize methOk c k = mok at HBAD HNEXT HOK
      obtain ⟨ec0, ec1, ec2, ec3, ec4, ec5⟩ := HC6.out wr hB.out
      have HBA := Lib.hid ((hB.out.alloc hB.out.size (.cells #[.string m.name, .string m.desc, .int .i64 m.flags, .int .i64 m.locals, .int .i64 m.stack, .slice ca m.code.length cc] 57)))
      have ce : ∀ j : Nat, (wr.alloc (.cells #[.string m.name, .string m.desc, .int .i64 m.flags, .int .i64 m.locals, .int .i64 m.stack, .slice ca m.code.length cc] 57)).cell? ⟨wr.heap.size, j, none⟩ = (#[Value.string m.name, .string m.desc, .int .i64 m.flags, .int .i64 m.locals, .int .i64 m.stack, .slice ca m.code.length cc])[j]? := fun j => World.cell?_alloc_new ..
      have hty := HTY.out
      have ef := alloc_old (x := .cells #[.string m.name, .string m.desc, .int .i64 m.flags, .int .i64 m.locals, .int .i64 m.stack, .slice ca m.code.length cc] 57) ec3
      have HBAW : Hid (Below w.heap.size w (wr.alloc (.cells #[.string m.name, .string m.desc, .int .i64 m.flags, .int .i64 m.locals, .int .i64 m.stack, .slice ca m.code.length cc] 57))) := Lib.hid (HB1.out.trans (HBA.out.mono HB1.out.size))
      go_wp2_with fail
      refine (HX.out _ HBAW.out).mono ?_
      rintro e w2 ⟨rfl, hb2⟩
      have m0 : w2.cell? ⟨wr.heap.size, 0, none⟩ = some (.string m.name) := below_cell' hb2 (ce 0)
      have m1 : w2.cell? ⟨wr.heap.size, 1, none⟩ = some (.string m.desc) := below_cell' hb2 (ce 1)
      have HB2 : Hid (Below w1.heap.size w1 w2) := Lib.hid (HBA.out.trans (hb2.mono HBA.out.size))
      have HBW2 : Hid (Below w.heap.size w w2) := Lib.hid (HBAW.out.trans (hb2.mono HBAW.out.size))
      clear hb2 ce ec0 ec1 ec2 ec3 ec4 ec5 ef hty g0 g1 g2 g3 g4 g5 HX HTY HBAW HBA
      cases mb
      · have G : Hid (R = false) := Lib.hid (HBAD.out (by rw [HOK.out]; rfl))
        go_wp2
        go_ret
        exact ⟨by rw [G.out]; rfl, HBW2.out⟩
      obtain ⟨ec0, ec1, ec2, ec3, ec4, ec5⟩ := HC6.out w2 HB2.out
      go_wp2_with fail
      refine (HFI.out _ HBW2.out).mono ?_
      rintro e w3 ⟨rfl, hb3⟩
      have HB3 : Hid (Below w1.heap.size w1 w3) := Lib.hid (HB2.out.trans (hb3.mono HB2.out.size))
      have HBW3 : Hid (Below w.heap.size w w3) := Lib.hid (HBW2.out.trans (hb3.mono HBW2.out.size))
      clear hb3 ec0 ec1 ec2 ec3 ec4 ec5 m0 m1 HFI
      by_cases hfk : fk = (k : Int)
      · have G := Lib.hid (HNEXT.out (by rw [HOK.out]; simp [hfk]))
        have hne : (fk != (k : Int)) = false := by simp [hfk]
        go_wp2
        go_roundg (c.meths.length - (k + 1))
        case measure => have := hk.out.1; omega
        case rel => exact ⟨k + 1, Lib.hid ⟨by omega, G.out⟩, by go_num, HB3⟩
      · have G : Hid (R = false) := Lib.hid (HBAD.out (by rw [HOK.out]; simp [hfk]))
        have hne : (fk != (k : Int)) = true := by simp [hfk]
        go_wp2
        go_ret
        exact ⟨by rw [G.out]; rfl, HBW3.out⟩
    · have G : Hid (R = true) := Lib.hid (by
        rw [HR2.out, List.all_eq_true]
        intro j hj
        exact hk.out.2 j (by have := List.mem_range.1 hj; omega))
      go_wp2
      go_ret
      exact ⟨by rw [G.out]; rfl, HBW.out⟩
end Go.Proofs.YtmpkdgankficeaaDoor.Pr
