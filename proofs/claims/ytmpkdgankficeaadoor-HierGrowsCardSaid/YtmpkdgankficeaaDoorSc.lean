/- Shapes: what stands ahead of the methods. -/
import Derived.Test.YtmpkdgankficeaaDoorSb
set_option maxRecDepth 100000
set_option maxHeartbeats 4000000
set_option linter.unusedVariables false
set_option linter.unusedSimpArgs false
namespace Go.Proofs.YtmpkdgankficeaaDoor.Pr
open Go.RowKit Bs Hi

/-- Is an interface's name sound at its place? -/
def ifcB (name : ByteArray) (xs : List ByteArray) (k : Nat) : Bool := match xs[k]? with
  | some s => Lf.validB s.data.toList && !(s.toList == name.toList) && !(Lib.containsS (xs.take k) s)
  | none => true
def headB (c : ClsM) : Bool := Lf.validB c.name.data.toList && Lf.validB c.super.data.toList && !(c.name.toList == c.super.toList) && Lf.classFlags c.flags
/-- Is what stands ahead of the methods sound? -/
def headerB (c : ClsM) : Bool := headB c && ((List.range c.ifaces.length).all fun k => ifcB c.name c.ifaces k) && (decide (c.ifaces.length ≤ 20) && decide (0 ≤ c.loader) && decide (c.loader ≤ 9))

theorem header (S : Nat → Prop) (c : ClsM) (a : Option Addr) (cap : Nat) (mv : Value) (w : World) (h1 : c.name.size ≤ maxLen) (h2 : c.super.size ≤ maxLen) (hi : StrSl S w (.slice a c.ifaces.length cap) c.ifaces) (hS : ∀ k, S k → k < w.heap.size) (he : Lf.Env w) :
    Calls Tryd.prog 54 #[.agg #[.string c.name, .string c.super, .slice a c.ifaces.length cap, .int .i64 c.flags, .int .i64 c.loader, mv]] w fun e w' => e = .returned (.bool (headerB c)) ∧ Below w.heap.size w w' := by
  have HE := Lib.hid he
  have HI := Lib.hid hi
  have HS := Lib.hid hS
  have HV1 := Lib.hid (fun w' he' => Lf.Valid c.name w' h1 he')
  have HV2 := Lib.hid (fun w' he' => Lf.Valid c.super w' h2 he')
  have HCC := Lib.hid (fun w' => Lf.CheckClass c.flags w')
  obtain ⟨R, hR⟩ : ∃ R, headerB c = R := ⟨_, rfl⟩
  have HR : Hid (headB c = false → R = false) := Lib.hid (fun h => by rw [← hR]; unfold headerB; rw [h]; rfl)
  have HH : Hid (headB c = (Lf.validB c.name.data.toList && Lf.validB c.super.data.toList && !(c.name.toList == c.super.toList) && Lf.classFlags c.flags)) := Lib.hid rfl
  have HR2 := Lib.hid hR
  rw [hR]
  clear hi hS he h1 h2 hR
  generalize Lf.validB c.name.data.toList = v1 at HV1 HH
  generalize Lf.validB c.super.data.toList = v2 at HV2 HH
  generalize Lf.classFlags c.flags = v4 at HCC HH
  obtain ⟨v3, e3⟩ : ∃ b, (c.name.toList == c.super.toList) = b := ⟨_, rfl⟩
  rw [e3] at HH
  have hce : ∀ j : Nat, (w.alloc (.cells #[.string c.name, .string c.super, .slice a c.ifaces.length cap, .int .i64 c.flags, .int .i64 c.loader, mv] 32)).cell? ⟨w.heap.size, j, none⟩ = (#[Value.string c.name, .string c.super, .slice a c.ifaces.length cap, .int .i64 c.flags, .int .i64 c.loader, mv])[j]? := fun j => World.cell?_alloc_new ..
  have hba : Below w.heap.size w (w.alloc (.cells #[.string c.name, .string c.super, .slice a c.ifaces.length cap, .int .i64 c.flags, .int .i64 c.loader, mv] 32)) := (Below.refl _ _).alloc (Nat.le_refl _) _
  have hza : w.heap.size < (w.alloc (.cells #[.string c.name, .string c.super, .slice a c.ifaces.length cap, .int .i64 c.flags, .int .i64 c.loader, mv] 32)).heap.size := World.block_lt_of_cell? _ _ (hce 0)
  have HCE := Lib.hid hce
  have HBA := Lib.hid hba
  clear hce hba
  go_enter Tryd.func54, Tryd.ntmps54
  go_wp2_with fail
  refine (HV1.out _ (HE.out.below HBA.out)).mono ?_
  rintro e w1 ⟨rfl, hb1⟩
  have c0 : w1.cell? ⟨w.heap.size, 0, none⟩ = some (.string c.name) := below_cell' hb1 (HCE.out 0)
  have c1 : w1.cell? ⟨w.heap.size, 1, none⟩ = some (.string c.super) := below_cell' hb1 (HCE.out 1)
  have c2 : w1.cell? ⟨w.heap.size, 2, none⟩ = some (.slice a c.ifaces.length cap) := below_cell' hb1 (HCE.out 2)
  have c3 : w1.cell? ⟨w.heap.size, 3, none⟩ = some (.int .i64 c.flags) := below_cell' hb1 (HCE.out 3)
  have c4 : w1.cell? ⟨w.heap.size, 4, none⟩ = some (.int .i64 c.loader) := below_cell' hb1 (HCE.out 4)
  have HB1 : Hid (Below w.heap.size w w1) := Lib.hid (HBA.out.trans (hb1.mono HBA.out.size))
  clear hb1 hza HCE HBA HV1
  cases v1
  · have G : Hid (R = false) := Lib.hid (HR.out (by rw [HH.out]; rfl))
    go_wp2
    go_ret
    exact ⟨by rw [G.out]; rfl, HB1.out⟩
  have HC2 := Lib.hid (fun (w' : World) (h : Below w1.heap.size w1 w') => (⟨below_cell' h c0, below_cell' h c1, below_cell' h c2, below_cell' h c3, below_cell' h c4⟩ : w'.cell? ⟨w.heap.size, 0, none⟩ = some (.string c.name) ∧ w'.cell? ⟨w.heap.size, 1, none⟩ = some (.string c.super) ∧ w'.cell? ⟨w.heap.size, 2, none⟩ = some (.slice a c.ifaces.length cap) ∧ w'.cell? ⟨w.heap.size, 3, none⟩ = some (.int .i64 c.flags) ∧ w'.cell? ⟨w.heap.size, 4, none⟩ = some (.int .i64 c.loader)))
  go_wp2_with fail
  refine (HV2.out _ (HE.out.below HB1.out)).mono ?_
  rintro e w2 ⟨rfl, hb2⟩
  obtain ⟨d0, d1, d2, d3, d4⟩ := HC2.out w2 hb2
  have HB2 : Hid (Below w.heap.size w w2) := Lib.hid (HB1.out.trans (hb2.mono HB1.out.size))
  clear hb2 c0 c1 c2 c3 c4 HC2 HB1 HV2
  cases v2
  · have G : Hid (R = false) := Lib.hid (HR.out (by rw [HH.out]; rfl))
    go_wp2
    go_ret
    exact ⟨by rw [G.out]; rfl, HB2.out⟩
  cases v3
  · go_wp2_with fail
    refine (HCC.out _).mono ?_
    rintro e _ ⟨rfl, rfl⟩
    cases v4
    · have G : Hid (R = false) := Lib.hid (HR.out (by rw [HH.out]; rfl))
      go_wp2
      go_ret
      exact ⟨by rw [G.out]; rfl, HB2.out⟩
    have HR3 : Hid (R = (((List.range c.ifaces.length).all fun k => ifcB c.name c.ifaces k) && (decide (c.ifaces.length ≤ 20) && decide (0 ≤ c.loader) && decide (c.loader ≤ 9)))) := Lib.hid (by rw [← HR2.out]; unfold headerB; rw [HH.out]; rfl)
    clear HR HH HR2
    have HDC := Lib.hid (fun (w' : World) (h : Below w2.heap.size w2 w') => (⟨below_cell' h d0, below_cell' h d2, below_cell' h d4⟩ : w'.cell? ⟨w.heap.size, 0, none⟩ = some (.string c.name) ∧ w'.cell? ⟨w.heap.size, 2, none⟩ = some (.slice a c.ifaces.length cap) ∧ w'.cell? ⟨w.heap.size, 4, none⟩ = some (.int .i64 c.loader)))
    clear HCC
    go_wp2_with fail
    go_loopg [31] c.ifaces.length (fun gk u wr => ∃ k : Nat, Hid (k + gk = c.ifaces.length ∧ ∀ j, j < k → ifcB c.name c.ifaces j = true) ∧ u = .int .i64 k ∧ Hid (Below w2.heap.size w2 wr))
    case atStart => exact ⟨0, Lib.hid ⟨Nat.zero_add _, fun j hj => by omega⟩, rfl, Lib.hid (Below.refl _ _)⟩
    case round =>
      obtain ⟨k, hk, rfl, hB⟩ := hrel
      have HBW : Hid (Below w.heap.size w wr) := Lib.hid (HB2.out.trans (hB.out.mono HB2.out.size))
      obtain ⟨a', c', hf, hle, hby, hcells⟩ := HI.out
      injection hf with hf1 hf2 hf3
      subst hf1; subst hf3
      obtain ⟨e0, e2, e4⟩ := HDC.out wr hB.out
      clear d0 d1 d2 d3 d4
      by_cases hlt : k < c.ifaces.length
      · have hlt' : (k : Int) < (c.ifaces.length : Int) := by omega
        have hkc : (k : Int) ≤ (cap : Int) := by omega
        rcases hcells with hnil | ⟨b, o, rfl, hSb, hcell⟩
        · rw [hnil] at hlt; simp at hlt
        obtain ⟨cs, hcl, hcs, hR⟩ := hcell k hlt
        obtain ⟨rfl, i1⟩ := hR
        have hbs := HS.out b hSb
        have g0 : wr.cell? ⟨b, o + k, none⟩ = some (.string c.ifaces[k]) := (World.cell?_of_block (w := w) (HBW.out.block b hbs)).trans (by simpa using hcs 0 (by simp))
        have HALL : Hid (∀ w' : World, Below wr.heap.size wr w' → ∀ j, j < c.ifaces.length → w'.cell? ⟨b, o + j, none⟩ = some (.string (c.ifaces.getD j ByteArray.empty))) := Lib.hid fun w' hb' j hj => by
          obtain ⟨cs', hcl', hcs', hR'⟩ := hcell j hj
          obtain ⟨rfl, _⟩ := hR'
          have := hcs' 0 (by simp)
          rw [List.getD_eq_getElem?_getD, List.getElem?_eq_getElem hj]
          exact (World.cell?_of_block (w := w) ((HBW.out.trans (hb'.mono HBW.out.size)).block b hbs)).trans (by simpa using this)
        have HV := Lib.hid (fun w' he' => Lf.Valid c.ifaces[k] w' i1 he')
        have HIF : Hid (ifcB c.name c.ifaces k = (Lf.validB c.ifaces[k].data.toList && !(c.ifaces[k].toList == c.name.toList) && !(Lib.containsS (c.ifaces.take k) c.ifaces[k]))) := Lib.hid (by unfold ifcB; rw [List.getElem?_eq_getElem hlt])
        have HCON := Lib.hid (fun (w' : World) (h : Below wr.heap.size wr w') (c' : Nat) => Tryd.slices_Contains_string b o k c' c.ifaces c.ifaces[k] w' (Nat.le_of_lt hlt) (by omega) (HALL.out w' h))
        clear hcs hcell hcl i1 HALL
        generalize c.ifaces[k] = s at g0 HV HIF HCON
        generalize Lf.validB s.data.toList = v1 at HV HIF
        obtain ⟨v2, q2⟩ : ∃ v, (s.toList == c.name.toList) = v := ⟨_, rfl⟩
        rw [q2] at HIF
        generalize Lib.containsS (c.ifaces.take k) s = v3 at HIF HCON
        have HBAD : Hid ((v1 && !v2 && !v3) = false → R = false) := Lib.hid (fun h => by
          rw [HR3.out]
          have : ((List.range c.ifaces.length).all fun k => ifcB c.name c.ifaces k) = false := by
            rw [List.all_eq_false]
            exact ⟨k, List.mem_range.2 hlt, by rw [HIF.out, h]; simp⟩
          rw [this]; rfl)
        have HNEXT : Hid ((v1 && !v2 && !v3) = true → ∀ j, j < k + 1 → ifcB c.name c.ifaces j = true) := Lib.hid fun h j hj => by
          by_cases e : j = k
          · subst e; rw [HIF.out]; exact h
          · exact hk.out.2 j (by omega)
        clear HIF
        have HE2 : Hid (∀ w' : World, Below wr.heap.size wr w' → w'.cell? ⟨w.heap.size, 0, none⟩ = some (.string c.name) ∧ w'.cell? ⟨w.heap.size, 2, none⟩ = some (.slice (some ⟨b, o, none⟩) c.ifaces.length cap) ∧ Below w2.heap.size w2 w' ∧ Below w.heap.size w w') := Lib.hid fun w' h => ⟨below_cell' h e0, below_cell' h e2, hB.out.trans (h.mono hB.out.size), HBW.out.trans (h.mono HBW.out.size)⟩
        go_wp2_with fail
        refine (HV.out _ (HE.out.below HBW.out)).mono ?_
        rintro e w3 ⟨rfl, hb3⟩
        obtain ⟨f0, f2, hB3, hW3⟩ := HE2.out w3 hb3
        have HB3 := Lib.hid hB3
        have HW3 := Lib.hid hW3
        have HC3 := Lib.hid (HCON.out w3 hb3)
        clear hb3 hB3 hW3 e0 e2 e4 g0 HE2 HV HCON HDC
        cases v1
        · have G : Hid (R = false) := Lib.hid (HBAD.out rfl)
          go_wp2
          go_ret
          exact ⟨by rw [G.out]; rfl, HW3.out⟩
        cases v2
        · go_wp2_with fail
          refine (HC3.out _).mono ?_
          rintro e _ ⟨rfl, rfl⟩
          cases v3
          · have G := Lib.hid (HNEXT.out rfl)
            go_wp2
            go_roundg (c.ifaces.length - (k + 1))
            case measure => have := hk.out.1; omega
            case rel => exact ⟨k + 1, Lib.hid ⟨by omega, G.out⟩, by go_num, HB3⟩
          · have G : Hid (R = false) := Lib.hid (HBAD.out rfl)
            go_wp2
            go_ret
            exact ⟨by rw [G.out]; rfl, HW3.out⟩
        · have G : Hid (R = false) := Lib.hid (HBAD.out rfl)
          go_wp2
          go_ret
          exact ⟨by rw [G.out]; rfl, HW3.out⟩
      · have G : Hid (R = (decide (c.ifaces.length ≤ 20) && decide (0 ≤ c.loader) && decide (c.loader ≤ 9))) := Lib.hid (by
          rw [HR3.out]
          have : ((List.range c.ifaces.length).all fun k => ifcB c.name c.ifaces k) = true := by
            rw [List.all_eq_true]
            intro j hj
            exact hk.out.2 j (by have := List.mem_range.1 hj; omega)
          rw [this]; rfl)
        clear hcells HBW
        have HBW : Hid (Below w.heap.size w wr) := Lib.hid (HB2.out.trans (hB.out.mono HB2.out.size))
        obtain ⟨y1, hy1⟩ : ∃ y, decide ((c.ifaces.length : Int) ≤ 20) = y := ⟨_, rfl⟩
        obtain ⟨y2, hy2⟩ : ∃ y, decide (0 ≤ c.loader) = y := ⟨_, rfl⟩
        obtain ⟨y3, hy3⟩ : ∃ y, decide (c.loader ≤ 9) = y := ⟨_, rfl⟩
        have G2 : Hid (R = (y1 && y2 && y3)) := Lib.hid (by
          have : decide (c.ifaces.length ≤ 20) = decide ((c.ifaces.length : Int) ≤ 20) := by rw [Bool.eq_iff_iff]; simp only [decide_eq_true_eq]; omega
          rw [G.out, this, hy1, hy2, hy3])
        clear G
        cases y1 <;> cases y2 <;> cases y3
        all_goals
          go_wp2
          go_ret
          exact ⟨by rw [G2.out]; rfl, HBW.out⟩
  · have G : Hid (R = false) := Lib.hid (HR.out (by rw [HH.out]; rfl))
    go_wp2
    go_ret
    exact ⟨by rw [G.out]; rfl, HB2.out⟩
end Go.Proofs.YtmpkdgankficeaaDoor.Pr
