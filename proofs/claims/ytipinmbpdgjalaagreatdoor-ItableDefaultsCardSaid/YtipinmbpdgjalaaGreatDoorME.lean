/- What is asked of a world, one number at a time. -/
import Derived.Test.YtipinmbpdgjalaaGreatDoorMD
import Derived.Deep.RegionHeld3
import Derived.StillTailTactics
set_option maxRecDepth 100000
set_option maxHeartbeats 4000000
set_option linter.unusedVariables false
set_option linter.unusedSimpArgs false
namespace Go.Proofs.YtipinmbpdgjalaaGreatDoor.Hi
open Go.RowKit Bs

/-- The entry of a number. -/
def entAt (m : List EntM) (id : Int) : Option EntM := if 0 ≤ id then m[id.toNat]? else none
theorem entAt_some {m : List EntM} {id : Int} {e : EntM} (h : entAt m id = some e) : ∃ i : Nat, id = i ∧ ∃ h : i < m.length, m[i] = e := by
  unfold entAt at h
  split at h
  · obtain ⟨h1, h2⟩ := List.getElem?_eq_some_iff.1 h
    exact ⟨id.toNat, by omega, h1, h2⟩
  · cases h
theorem entAt_none {m : List EntM} {id : Int} (h : entAt m id = none) : id < 0 ∨ (m.length : Int) ≤ id := by
  unfold entAt at h
  split at h
  · have := List.getElem?_eq_none_iff.1 h
    omega
  · omega
theorem entAt_nat {m : List EntM} {i : Nat} (h : i < m.length) : entAt m (i : Int) = some m[i] := by
  unfold entAt
  rw [if_pos (by omega)]
  simp [h]

/-- An entry's cells. -/
structure Ent9 (S : Nat → Prop) (w : World) (be : Nat) (e : EntM) (ia : Option Addr) (ic : Nat) (ma : Option Addr) (mc : Nat) (ca : Option Addr) (cc : Nat) : Prop where
  k0 : w.cell? ⟨be, 0, none⟩ = some (.string e.c.name)
  k1 : w.cell? ⟨be, 1, none⟩ = some (.string e.c.super)
  k2 : w.cell? ⟨be, 2, none⟩ = some (.slice ia e.c.ifaces.length ic)
  k3 : w.cell? ⟨be, 3, none⟩ = some (.int .i64 e.c.flags)
  k4 : w.cell? ⟨be, 4, none⟩ = some (.int .i64 e.c.loader)
  k5 : w.cell? ⟨be, 5, none⟩ = some (.slice ma e.c.meths.length mc)
  k6 : w.cell? ⟨be, 6, none⟩ = some (.int .i64 e.above)
  k7 : w.cell? ⟨be, 7, none⟩ = some (.int .i64 e.depth)
  k8 : w.cell? ⟨be, 8, none⟩ = some (.slice ca e.closure.length cc)
  cls : ClsIs S w [.string e.c.name, .string e.c.super, .slice ia e.c.ifaces.length ic, .int .i64 e.c.flags, .int .i64 e.c.loader, .slice ma e.c.meths.length mc] e.c
  clo : IntSl S w (.slice ca e.closure.length cc) e.closure

theorem EntAt.nine {S : Nat → Prop} {w : World} {be : Nat} {e : EntM} (h : EntAt S w (.pointer (some ⟨be, 0, none⟩)) e) : ∃ ia ic ma mc ca cc, Ent9 S w be e ia ic ma mc ca cc := by
  obtain ⟨be', cs, cv, e1, e2, e3, e4, hcl, k6, k7, k8, hclo⟩ := h
  injection e1 with e1
  injection e1 with e1
  injection e1 with e1
  subst e1
  have hcl' := hcl
  obtain ⟨iv, mv, rfl, q1, q2, q3, q4, q5, q6⟩ := hcl'
  obtain ⟨ia, ic, rfl, _⟩ := id q3
  obtain ⟨ma, mc, rfl, _⟩ := id q6
  obtain ⟨ca, cc, rfl, _⟩ := id hclo
  have k0 := e4 0 (by simp)
  have k1 := e4 1 (by simp)
  have k2 := e4 2 (by simp)
  have k3 := e4 3 (by simp)
  have k4 := e4 4 (by simp)
  have k5 := e4 5 (by simp)
  simp only [List.getElem_cons_zero, List.getElem_cons_succ] at k0 k1 k2 k3 k4 k5
  exact ⟨ia, ic, ma, mc, ca, cc, k0, k1, k2, k3, k4, k5, k6, k7, k8, hcl, hclo⟩

theorem at_in {S : Nat → Prop} {bw : Nat} {w : World} {m : List EntM} (h : HW S bw w m) {id : Int} {e : EntM} (he : entAt m id = some e) :
    ∃ be ia ic ma mc ca cc, Ent9 S w be e ia ic ma mc ca cc ∧ Calls Tryz.prog 43 #[.pointer (some ⟨bw, 0, none⟩), .int .i64 id] w fun r w' => r = .returned (.pointer (some ⟨be, 0, none⟩)) ∧ w = w' := by
  obtain ⟨i, rfl, hi, rfl⟩ := entAt_some he
  obtain ⟨ga, cap, ha, hall⟩ := h.all
  obtain ⟨g, be, rfl, hbe, hea⟩ := hall i hi
  obtain ⟨ia, ic, ma, mc, ca, cc, h9⟩ := hea.nine
  refine ⟨be, ia, ic, ma, mc, ca, cc, h9, ?_⟩
  have h1 : decide ((i : Int) < 0) = false := decide_eq_false (by omega)
  have h2 : decide ((m.length : Int) ≤ (i : Int)) = false := decide_eq_false (by omega)
  have h3 : (i : Int) < (m.length : Int) := by omega
  clear hea h9 hall he h
  go_enter Tryz.func43, Tryz.ntmps43
  go_wp2
  go_ret
  exact ⟨rfl, rfl⟩

theorem at_out {S : Nat → Prop} {bw : Nat} {w : World} {m : List EntM} (h : HW S bw w m) {id : Int} (he : entAt m id = none) :
    Calls Tryz.prog 43 #[.pointer (some ⟨bw, 0, none⟩), .int .i64 id] w fun r w' => r = .returned (.pointer none) ∧ w = w' := by
  obtain ⟨ga, cap, ha, hall⟩ := h.all
  clear hall
  by_cases h1 : id < 0
  · have h1' : decide (id < 0) = true := decide_eq_true h1
    go_enter Tryz.func43, Tryz.ntmps43
    go_wp2
    go_ret
    exact ⟨rfl, rfl⟩
  · have h1' : decide (id < 0) = false := decide_eq_false h1
    have h2 : decide ((m.length : Int) ≤ id) = true := decide_eq_true (by have := entAt_none he; omega)
    go_enter Tryz.func43, Tryz.ntmps43
    go_wp2
    go_ret
    exact ⟨rfl, rfl⟩

/-- The superclass's number and the error. -/
def superM (m : List EntM) (id : Int) : Int × Int := match entAt m id with
  | none => (0, 3)
  | some e => if e.above < 0 then (0, 6) else (e.above, 0)
def depthM (m : List EntM) (id : Int) : Int × Int := match entAt m id with
  | none => (0, 3)
  | some e => (e.depth, 0)
def isIfaceM (m : List EntM) (id : Int) : Bool := match entAt m id with
  | none => false
  | some e => Pr.isIfc e.c
def sameM (m : List EntM) (a b : Int) : Bool := match entAt m a, entAt m b with
  | some e, some f => togB e.c.name f.c.name e.c.loader f.c.loader
  | _, _ => false
def findH (m : List EntM) (id : Int) (n d : ByteArray) : Int × Int := match entAt m id with
  | none => (0, 3)
  | some e => if Pr.findM e.c.meths n d < 0 then (0, 6) else (Pr.findM e.c.meths n d, 0)
def closureM (m : List EntM) (id : Int) : List Int × Int := match entAt m id with
  | none => ([], 3)
  | some e => (e.closure, 0)

theorem Super {S : Nat → Prop} {bw : Nat} {w : World} {m : List EntM} (h : HW S bw w m) (id : Int) :
    Calls Tryz.prog 12 #[.pointer (some ⟨bw, 0, none⟩), .int .i64 id] w fun r w' => r = .returned (.tuple #[.int .i64 (superM m id).1, .int .i64 (superM m id).2]) ∧ w = w' := by
  unfold superM
  cases he : entAt m id with
  | none =>
    go_enter Tryz.func12, Tryz.ntmps12
    go_wp2_with fail
    refine (at_out h he).mono ?_
    rintro e w' ⟨rfl, rfl⟩
    go_wp2
    go_ret2
    exact ⟨rfl, rfl⟩
  | some e =>
    obtain ⟨be, ia, ic, ma, mc, ca, cc, h9, hc⟩ := at_in h he
    have k6 := h9.k6
    clear h9
    by_cases hn : e.above < 0
    · have hn' : decide (e.above < 0) = true := decide_eq_true hn
      have HF : Hid ((if e.above < 0 then ((0 : Int), (6 : Int)) else (e.above, 0)) = (0, 6)) := Lib.hid (if_pos hn)
      go_enter Tryz.func12, Tryz.ntmps12
      go_wp2_with fail
      refine hc.mono ?_
      rintro _ w' ⟨rfl, rfl⟩
      go_wp2
      go_ret2
      exact ⟨by simp only [HF.out]; rfl, rfl⟩
    · have hn' : decide (e.above < 0) = false := decide_eq_false hn
      have HF : Hid ((if e.above < 0 then ((0 : Int), (6 : Int)) else (e.above, 0)) = (e.above, 0)) := Lib.hid (if_neg hn)
      go_enter Tryz.func12, Tryz.ntmps12
      go_wp2_with fail
      refine hc.mono ?_
      rintro _ w' ⟨rfl, rfl⟩
      go_wp2
      go_ret2
      exact ⟨by simp only [HF.out]; rfl, rfl⟩


theorem IsIface {S : Nat → Prop} {bw : Nat} {w : World} {m : List EntM} (h : HW S bw w m) (id : Int) :
    Calls Tryz.prog 21 #[.pointer (some ⟨bw, 0, none⟩), .int .i64 id] w fun r w' => r = .returned (.bool (isIfaceM m id)) ∧ Below w.heap.size w w' := by
  unfold isIfaceM
  cases he : entAt m id with
  | none =>
    go_enter Tryz.func21, Tryz.ntmps21
    go_wp2_with fail
    refine (at_out h he).mono ?_
    rintro e w' ⟨rfl, rfl⟩
    go_wp2
    go_ret
    exact ⟨rfl, Below.refl _ _⟩
  | some e =>
    obtain ⟨be, ia, ic, ma, mc, ca, cc, h9, hc⟩ := at_in h he
    have k0 := h9.k0
    have k1 := h9.k1
    have k2 := h9.k2
    have k3 := h9.k3
    have k4 := h9.k4
    have k5 := h9.k5
    clear h9
    have HI := Lib.hid (Iface (.string e.c.name) (.string e.c.super) (.slice ia e.c.ifaces.length ic) (.int .i64 e.c.loader) (.slice ma e.c.meths.length mc) e.c.flags)
    have hI : (bits .and .i64 e.c.flags 512 != 0) = Pr.isIfc e.c := rfl
    rw [hI] at HI
    clear hI
    show Calls _ _ _ _ fun r w' => r = .returned (.bool (Pr.isIfc e.c)) ∧ _
    generalize Pr.isIfc e.c = bi at HI ⊢
    go_enter Tryz.func21, Tryz.ntmps21
    go_wp2_with fail
    refine hc.mono ?_
    rintro _ w' ⟨rfl, rfl⟩
    go_wp2_with fail
    refine (HI.out _).mono ?_
    rintro _ w' ⟨rfl, hb⟩
    go_wp2
    go_ret
    exact ⟨rfl, hb⟩
end Go.Proofs.YtipinmbpdgjalaaGreatDoor.Hi
/- What is asked of a world: closures, classes, packages. -/
set_option maxRecDepth 100000
set_option maxHeartbeats 4000000
set_option linter.unusedVariables false
set_option linter.unusedSimpArgs false
namespace Go.Proofs.YtipinmbpdgjalaaGreatDoor.Hi
open Go.RowKit Bs

/-- The world's numbers fit. -/
theorem clo_fits {m : List EntM} (h : WFm m) {i : Nat} (hi : i < m.length) : (∀ x ∈ m[i].closure, Fits x) ∧ m[i].closure.length ≤ 300 := by
  have hc := h.closed i hi
  have hl := h.len
  refine ⟨fun x hx => ?_, ?_⟩
  · have := hc.2 x hx
    unfold Fits; omega
  · have hok : Okl i m[i].closure := hc
    have := hok.len
    omega

theorem Closure {S : Nat → Prop} {bw : Nat} {w : World} {m : List EntM} (h : HW S bw w m) (id : Int) :
    Calls Tryz.prog 66 #[.pointer (some ⟨bw, 0, none⟩), .int .i64 id] w fun r w' => ∃ a c, r = .returned (.tuple #[.slice a (closureM m id).1.length c, .int .i64 (closureM m id).2]) ∧ IntSl (fun b => w.heap.size ≤ b ∧ b < w'.heap.size) w' (.slice a (closureM m id).1.length c) (closureM m id).1 ∧ Below w.heap.size w w' := by
  unfold closureM
  cases he : entAt m id with
  | none =>
    go_enter Tryz.func66, Tryz.ntmps66
    go_wp2_with fail
    refine (at_out h he).mono ?_
    rintro e w' ⟨rfl, rfl⟩
    go_wp2
    go_ret2
    exact ⟨none, 0, rfl, ⟨none, 0, rfl, Nat.le_refl _, by simp, .inl rfl⟩, Below.refl _ _⟩
  | some e =>
    obtain ⟨be, ia, ic, ma, mc, ca, cc, h9, hc⟩ := at_in h he
    obtain ⟨i, rfl, hi, rfl⟩ := entAt_some he
    have HFT := Lib.hid (clo_fits h.wf hi)
    have k8 := h9.k8
    have HCL := Lib.hid (clone_ints h9.clo)
    clear h9
    show Calls _ _ _ _ fun r w' => ∃ a c, r = .returned (.tuple #[.slice a m[i].closure.length c, .int .i64 0]) ∧ IntSl (fun b => w.heap.size ≤ b ∧ b < w'.heap.size) w' (.slice a m[i].closure.length c) m[i].closure ∧ Below w.heap.size w w'
    generalize m[i].closure = cl at HFT HCL k8 ⊢
    go_enter Tryz.func66, Tryz.ntmps66
    go_wp2_with fail
    refine hc.mono ?_
    rintro _ w' ⟨rfl, rfl⟩
    go_wp2_with fail
    refine HCL.out.mono ?_
    rintro _ w' ⟨a, c, rfl, hown, hb⟩
    have F : Hid (IntSl (fun b => w.heap.size ≤ b ∧ b < w'.heap.size) w' (.slice a cl.length c) cl) := Lib.hid (IntSl.of_own hown HFT.out.1 (by have := HFT.out.2; omega) _ fun b hb' => own_live hown hb')
    clear hown
    go_wp2
    go_ret2
    exact ⟨a, c, rfl, F.out, hb⟩

theorem ClsIs.shape {S : Nat → Prop} {w : World} {c : ClsM} {v0 v1 iv v3 v4 mv : Value} (h : ClsIs S w [v0, v1, iv, v3, v4, mv] c) : StrSl S w iv c.ifaces ∧ MethSl S w mv c.meths := by
  obtain ⟨iv', mv', e, _, _, h1, _, _, h2⟩ := h
  injection e with _ e; injection e with _ e; injection e with e1 e; injection e with _ e; injection e with _ e; injection e with e2 _
  subst e1; subst e2
  exact ⟨h1, h2⟩
/-- The class of a number; the zero class. -/
def classM (m : List EntM) (id : Int) : Option ClsM := (entAt m id).map (·.c)

theorem Class_in {S : Nat → Prop} {bw : Nat} {w : World} {m : List EntM} (h : HW S bw w m) (hS : ∀ k, S k → k < w.heap.size) {id : Int} {e : EntM} (he : entAt m id = some e) :
    Calls Tryz.prog 20 #[.pointer (some ⟨bw, 0, none⟩), .int .i64 id] w fun r w' => ∃ cs' : List Value, r = .returned (.tuple #[.agg cs'.toArray, .int .i64 0]) ∧ ClsIs (fun b => w.heap.size ≤ b ∧ b < w'.heap.size) w' cs' e.c ∧ Below w.heap.size w w' := by
  obtain ⟨wa, hwa⟩ : ∃ wa, wa = w.alloc (.cells #[.string ⟨#[]⟩, .string ⟨#[]⟩, .slice none 0 0, .int .i64 0, .int .i64 0, .slice none 0 0] 26) := ⟨_, rfl⟩
  have hba : Below w.heap.size w wa := by rw [hwa]; exact (Below.refl _ _).alloc (Nat.le_refl _) _
  have hza : wa.heap.size = w.heap.size + 1 := by rw [hwa]; simp
  have r0 : ∀ j v, (#[Value.string ⟨#[]⟩, .string ⟨#[]⟩, .slice none 0 0, .int .i64 0, .int .i64 0, .slice none 0 0])[j]? = some v → wa.cell? ⟨w.heap.size, j, none⟩ = some v := fun j v hv => by
    rw [hwa]; exact (World.cell?_alloc_new ..).trans hv
  have f0 : ∀ j, wa.frozen? ⟨w.heap.size, j, none⟩ = false := fun j => by rw [hwa]; exact frozen_new ..
  have HR := Lib.hid (And.intro r0 f0)
  have h' := h.alike hba.size (Alike.of_below hba hS)
  have hS' : ∀ k, S k → k < wa.heap.size := fun k hk => Nat.lt_of_lt_of_le (hS k hk) hba.size
  have HBA := Lib.hid hba
  obtain ⟨be, ia, ic, ma, mc, ca, cc, h9, hc⟩ := at_in h' he
  have k0 := h9.k0
  have k1 := h9.k1
  have k2 := h9.k2
  have k3 := h9.k3
  have k4 := h9.k4
  have k5 := h9.k5
  have HCO := Lib.hid (copied S e.c _ wa h9.cls hS')
  have HSH := Lib.hid (ClsIs.shape h9.cls)
  clear h9 r0 f0 h' hS' hba h hS
  go_enter Tryz.func20, Tryz.ntmps20
  go_wp2_with fail
  rw [← hwa]
  clear hwa
  refine hc.mono ?_
  rintro _ w' ⟨rfl, rfl⟩
  go_wp2_with fail
  refine HCO.out.mono ?_
  rintro _ w2 ⟨cs', rfl, hcl, hb2⟩
  have hcl' := hcl
  obtain ⟨iv, mv, rfl, _⟩ := hcl'
  obtain ⟨ia', ic', rfl, _⟩ := (ClsIs.shape hcl).1
  obtain ⟨ma', mc', rfl, _⟩ := (ClsIs.shape hcl).2
  have hz2 := hb2.size
  have s0 := below_cell' hb2 (HR.out.1 0 _ rfl)
  have s1 := below_cell' hb2 (HR.out.1 1 _ rfl)
  have s2 := below_cell' hb2 (HR.out.1 2 _ rfl)
  have s3 := below_cell' hb2 (HR.out.1 3 _ rfl)
  have s4 := below_cell' hb2 (HR.out.1 4 _ rfl)
  have s5 := below_cell' hb2 (HR.out.1 5 _ rfl)
  have t : ∀ j, w2.frozen? ⟨w.heap.size, j, none⟩ = false := fun j => (World.frozen?_of_block (w := wa) (a := ⟨w.heap.size, j, none⟩) (hb2.block _ (show w.heap.size < wa.heap.size by omega))).trans (HR.out.2 j)
  have t0 := t 0
  have t1 := t 1
  have t2 := t 2
  have t3 := t 3
  have t4 := t 4
  have t5 := t 5
  simp only [List.getElem_toArray, List.getElem_cons_zero, List.getElem_cons_succ] at s0 s1 s2 s3 s4 s5
  have HB2 := Lib.hid (HBA.out.trans (hb2.mono HBA.out.size))
  have HCL := Lib.hid hcl
  clear hcl t hb2
  go_wp2
  have key := set6 (v0 := .string e.c.name) (v1 := .string e.c.super) (v2 := .slice ia' e.c.ifaces.length ic') (v3 := .int .i64 e.c.flags) (v4 := .int .i64 e.c.loader) (v5 := .slice ma' e.c.meths.length mc') s0 s1 s2 s3 s4 s5
  refine bodyPost_ret (results_cells_tmp rfl _ _ w.heap.size [.string e.c.name, .string e.c.super, .slice ia' e.c.ifaces.length ic', .int .i64 e.c.flags, .int .i64 e.c.loader, .slice ma' e.c.meths.length mc'] _ rfl (six key.1 key.2.1 key.2.2.1 key.2.2.2.1 key.2.2.2.2.1 key.2.2.2.2.2) Tryz.underlying26 rfl class_info) rfl ⟨_, rfl, ?_, ?_⟩
  · refine (HCL.out.alike (w' := _) fun b hb => ?_).mono fun b hb => ⟨by omega, by simp; omega⟩
    iterate 6 rw [Below.heap_setCell _ _ _ _ (show b ≠ w.heap.size by omega)]
  · exact (((((HB2.out.setCell (Nat.le_refl _) _).setCell (Nat.le_refl _) _).setCell (Nat.le_refl _) _).setCell (Nat.le_refl _) _).setCell (Nat.le_refl _) _).setCell (Nat.le_refl _) _
end Go.Proofs.YtipinmbpdgjalaaGreatDoor.Hi
/- What extends what; chains. -/
set_option maxRecDepth 100000
set_option maxHeartbeats 400000
set_option linter.unusedVariables false
set_option linter.unusedSimpArgs false
namespace Go.Proofs.YtipinmbpdgjalaaGreatDoor.Hi
open Go.RowKit Bs

/-- The class above a whose depth is at most fd. -/
def upM (m : List EntM) (fd : Int) : Nat → Int → Int
  | 0, a => a
  | k + 1, a => match entAt m a with
    | some e => if fd < e.depth then upM m fd k e.above else a
    | none => a
/-- Is b above a, or a itself? -/
def extM (m : List EntM) (a b : Int) : Bool := match entAt m a, entAt m b with
  | some e, some f => if Pr.isIfc f.c = true then (a == b) || e.closure.contains b else upM m f.depth e.depth.toNat a == b
  | _, _ => false

theorem upM_stop {m : List EntM} {fd a : Int} {e : EntM} (he : entAt m a = some e) (h : ¬ fd < e.depth) : ∀ k, upM m fd k a = a
  | 0 => rfl
  | k + 1 => by unfold upM; rw [he]; simp only; rw [if_neg h]
theorem upM_go {m : List EntM} {fd a : Int} {e : EntM} (he : entAt m a = some e) (h : fd < e.depth) (k : Nat) : upM m fd (k + 1) a = upM m fd k e.above := by
  show (match entAt m a with | some e => if fd < e.depth then upM m fd k e.above else a | none => a) = _
  rw [he]; simp only; rw [if_pos h]

theorem ents {S : Nat → Prop} {bw : Nat} {w : World} {m : List EntM} (h : HW S bw w m) : ∃ ga cap, w.cell? ⟨bw, 0, none⟩ = some (.slice ga m.length cap) ∧
    ∀ i (hi : i < m.length), ∃ g be ia ic ma mc ca cc, ga = some ⟨g, 0, none⟩ ∧ w.cell? ⟨g, i, none⟩ = some (.pointer (some ⟨be, 0, none⟩)) ∧ Ent9 S w be m[i] ia ic ma mc ca cc := by
  obtain ⟨ga, cap, h1, h2⟩ := h.all
  refine ⟨ga, cap, h1, fun i hi => ?_⟩
  obtain ⟨g, be, e1, e2, e3⟩ := h2 i hi
  obtain ⟨ia, ic, ma, mc, ca, cc, h9⟩ := e3.nine
  exact ⟨g, be, ia, ic, ma, mc, ca, cc, e1, e2, h9⟩

theorem contains_ints {S : Nat → Prop} {w : World} {a : Option Addr} {c : Nat} {xs : List Int} (x : Int) (h : IntSl S w (.slice a xs.length c) xs) :
    Calls Tryz.prog 48 #[.slice a xs.length c, .int .i64 x] w fun e w' => e = .returned (.bool (xs.contains x)) ∧ w = w' := by
  obtain ⟨a', c', hf, h2, h3, h4⟩ := h.cells
  injection hf with f1 f2 f3
  subst f1; subst f3
  rcases h4 with rfl | ⟨b, o, rfl, _, h4⟩
  · refine (Tryz.slices_Contains_int_empty a c x w).mono ?_
    rintro e w' ⟨rfl, rfl⟩
    exact ⟨rfl, rfl⟩
  · refine (Tryz.slices_Contains_int b o xs.length c xs x w (Nat.le_refl _) (by omega) fun j hj => ?_).mono ?_
    · rw [(h4 j hj).1]; simp [List.getD, hj]
    · rintro e w' ⟨rfl, rfl⟩
      exact ⟨by rw [List.take_length], rfl⟩

theorem Extends {S : Nat → Prop} {bw : Nat} {w : World} {m : List EntM} (h : HW S bw w m) (hS : ∀ k, S k → k < w.heap.size) (a b : Int) :
    Calls Tryz.prog 15 #[.pointer (some ⟨bw, 0, none⟩), .int .i64 a, .int .i64 b] w fun r w' => r = .returned (.bool (extM m a b)) ∧ Below w.heap.size w w' := by
  cases he : entAt m a with
  | none =>
    have G : Hid (extM m a b = false) := Lib.hid (by unfold extM; rw [he])
    cases hf : entAt m b with
    | none =>
      go_enter Tryz.func15, Tryz.ntmps15
      go_wp2_with fail
      refine (at_out h he).mono ?_
      rintro e w' ⟨rfl, rfl⟩
      go_wp2_with fail
      refine (at_out h hf).mono ?_
      rintro e w' ⟨rfl, rfl⟩
      go_wp2
      go_ret
      exact ⟨by rw [G.out]; rfl, Below.refl _ _⟩
    | some f =>
      obtain ⟨be, ia, ic, ma, mc, ca, cc, h9, hc⟩ := at_in h hf
      go_enter Tryz.func15, Tryz.ntmps15
      go_wp2_with fail
      refine (at_out h he).mono ?_
      rintro e w' ⟨rfl, rfl⟩
      go_wp2_with fail
      refine hc.mono ?_
      rintro e w' ⟨rfl, rfl⟩
      go_wp2
      go_ret
      exact ⟨by rw [G.out]; rfl, Below.refl _ _⟩
  | some e =>
    obtain ⟨be, ia, ic, ma, mc, ca, cc, h9, hc⟩ := at_in h he
    cases hf : entAt m b with
    | none =>
      have G : Hid (extM m a b = false) := Lib.hid (by unfold extM; rw [he, hf])
      go_enter Tryz.func15, Tryz.ntmps15
      go_wp2_with fail
      refine hc.mono ?_
      rintro e w' ⟨rfl, rfl⟩
      go_wp2_with fail
      refine (at_out h hf).mono ?_
      rintro e w' ⟨rfl, rfl⟩
      go_wp2
      go_ret
      exact ⟨by rw [G.out]; rfl, Below.refl _ _⟩
    | some f =>
      obtain ⟨bf, ia', ic', ma', mc', ca', cc', h9', hc'⟩ := at_in h hf
      have HEX : Hid (extM m a b = if Pr.isIfc f.c = true then (a == b) || e.closure.contains b else upM m f.depth e.depth.toNat a == b) := Lib.hid (by unfold extM; rw [he, hf])
      have k0 := h9'.k0
      have k1 := h9'.k1
      have k2 := h9'.k2
      have k3 := h9'.k3
      have k4 := h9'.k4
      have k5 := h9'.k5
      have HI := Lib.hid (Iface (.string f.c.name) (.string f.c.super) (.slice ia' f.c.ifaces.length ic') (.int .i64 f.c.loader) (.slice ma' f.c.meths.length mc') f.c.flags)
      have hI : (bits .and .i64 f.c.flags 512 != 0) = Pr.isIfc f.c := rfl
      rw [hI] at HI
      clear hI
      obtain ⟨ifc, hifc⟩ : ∃ ifc, Pr.isIfc f.c = ifc := ⟨_, rfl⟩
      rw [hifc] at HI HEX
      clear hifc
      have HH := Lib.hid h
      have HS := Lib.hid hS
      have H9 := Lib.hid h9
      have H9' := Lib.hid h9'
      have HWF := Lib.hid h.wf
      obtain ⟨i, hai, hi, hei⟩ := entAt_some he
      obtain ⟨j, hbj, hj, hfj⟩ := entAt_some hf
      have HE := Lib.hid he
      have HEI : Hid (a = i ∧ m[i] = e ∧ b = j ∧ m[j] = f) := Lib.hid ⟨hai, hei, hbj, hfj⟩
      clear h h9 h9' hS he hf hai hei hbj hfj
      go_enter Tryz.func15, Tryz.ntmps15
      go_wp2_with fail
      refine hc.mono ?_
      rintro _ w' ⟨rfl, rfl⟩
      go_wp2_with fail
      refine hc'.mono ?_
      rintro _ w' ⟨rfl, rfl⟩
      go_wp2_with fail
      refine (HI.out _).mono ?_
      rintro _ w1 ⟨rfl, hb1⟩
      clear k0 k1 k2 k3 k4 k5 HI hc hc'
      have HB1 := Lib.hid hb1
      cases ifc
      · have k7 := below_cell' hb1 H9'.out.k7
        have q7 := below_cell' hb1 H9.out.k7
        have HH1 := Lib.hid (HH.out.alike hb1.size (Alike.of_below hb1 HS.out))
        clear hb1
        obtain ⟨ga, cap, hga, hents⟩ := ents HH1.out
        have HEN := Lib.hid hents
        have HR : Hid (extM m a b = (upM m f.depth e.depth.toNat a == b)) := Lib.hid (HEX.out.trans (if_neg (by simp)))
        have HD : Hid (0 ≤ f.depth) := Lib.hid (by rw [← HEI.out.2.2.2]; exact (HWF.out.depth j hj).1)
        obtain ⟨R, hRR⟩ : ∃ R, upM m f.depth e.depth.toNat a = R := ⟨_, rfl⟩
        have HR0 : Hid (upM m f.depth m[i].depth.toNat i = R) := Lib.hid (by rw [← hRR, HEI.out.1, HEI.out.2.1])
        have hq7 : w1.cell? ⟨be, 7, none⟩ = some (.int .i64 m[i].depth) := by rw [HEI.out.2.1]; exact q7
        have HQ7 := Lib.hid hq7
        rw [hRR] at HR
        have ha0 := HEI.out.1
        have HB0 : Hid (∃ x, ga = some ⟨x, 0, none⟩) := Lib.hid (by
          obtain ⟨g, _, _, _, _, _, _, _, e1, _⟩ := hents i hi
          exact ⟨g, e1⟩)
        obtain ⟨g, rfl⟩ := HB0.out
        have HGA := Lib.hid hga
        clear hents hq7 hRR q7 HB0
        go_wp2_with fail
        clear ha0
        go_loopg [1, 7] m[i].depth.toNat (fun gk u1 u7 wr => ∃ (k : Nat) (hk : k < m.length) (bk : Nat), Hid (gk = m[k].depth.toNat ∧ upM m f.depth gk k = R ∧ w1.cell? ⟨bk, 7, none⟩ = some (.int .i64 m[k].depth) ∧ w1.cell? ⟨bk, 6, none⟩ = some (.int .i64 m[k].above)) ∧ u1 = .int .i64 k ∧ u7 = .pointer (some ⟨bk, 0, none⟩) ∧ Hid (Below w1.heap.size w1 wr ∧ wr.heap = w1.heap))
        case atStart => exact ⟨i, hi, be, Lib.hid ⟨rfl, HR0.out, HQ7.out, by rw [HEI.out.2.1]; exact below_cell' HB1.out H9.out.k6⟩, rfl, rfl, Lib.hid ⟨Below.refl _ _, rfl⟩⟩
        case round =>
          clear hga k7
          obtain ⟨k, hk, bk, HK, rfl, rfl, HW⟩ := hrel
          obtain ⟨g', bk', x1, x2, x3, x4, x5, x6, y1, y2, y3⟩ := HEN.out k hk
          have cw : ∀ p : Addr, wr.cell? p = w1.cell? p := fun p => World.cell?_of_block (by rw [HW.out.2])
          have c7 : wr.cell? ⟨bk, 7, none⟩ = some (.int .i64 m[k].depth) := (cw _).trans HK.out.2.2.1
          have c6 : wr.cell? ⟨bk, 6, none⟩ = some (.int .i64 m[k].above) := (cw _).trans HK.out.2.2.2
          have f7 : wr.cell? ⟨bf, 7, none⟩ = some (.int .i64 f.depth) := (cw _).trans (below_cell' HB1.out H9'.out.k7)
          have HBR : Hid (Below w.heap.size w wr) := Lib.hid (HB1.out.trans (HW.out.1.mono HB1.out.size))
          clear y1 y2 y3
          by_cases hd : f.depth < m[k].depth
          · have hd' : decide (f.depth < m[k].depth) = true := decide_eq_true hd
            obtain ⟨p, hp⟩ : ∃ p : Nat, m[k].above = p := by
              have h1 := HWF.out.above k hk
              have h2 := HWF.out.depth k hk
              have h3 := HD.out
              refine ⟨m[k].above.toNat, ?_⟩
              by_cases hk0 : k = 0
              · have := h2.2.2.2 hk0; omega
              · have := h1.2.2; omega
            have hpk : p < k := by have := (HWF.out.above k hk).2.1; omega
            have hpl : (p : Int) < (m.length : Int) := by omega
            obtain ⟨g'', bp, x1, x2, x3, x4, x5, x6, y1, y2, y3⟩ := HEN.out p (by omega)
            injection y1 with y1
            injection y1 with y1
            subst y1
            have gp : wr.cell? ⟨g, p, none⟩ = some (.pointer (some ⟨bp, 0, none⟩)) := (cw _).trans y2
            have hgr : wr.cell? ⟨bw, 0, none⟩ = some (.slice (some ⟨g, 0, none⟩) m.length cap) := (cw _).trans HGA.out
            have HNX : Hid (m[p].depth.toNat < gk ∧ upM m f.depth m[p].depth.toNat p = R ∧ w1.cell? ⟨bp, 7, none⟩ = some (.int .i64 m[p].depth) ∧ w1.cell? ⟨bp, 6, none⟩ = some (.int .i64 m[p].above)) := Lib.hid (by
              have h2 := (HWF.out.depth k hk).2.2.1 p (by omega) hp
              have h3 := (HWF.out.depth p (by omega)).1
              have e1 : gk = m[p].depth.toNat + 1 := by rw [HK.out.1]; omega
              refine ⟨by omega, ?_, y3.k7, y3.k6⟩
              rw [← HK.out.2.1, e1, upM_go (entAt_nat hk) hd, hp])
            rw [hp] at c6
            clear cw y2 y3 hp hd
            generalize m[k].depth = dk at c7 hd'
            go_wp2_with fail
            go_quiet (fail)
            go_wp2
            go_roundg m[p].depth.toNat
            case measure => exact HNX.out.1
            case rel => exact ⟨p, by omega, bp, Lib.hid ⟨rfl, HNX.out.2⟩, rfl, rfl, Lib.hid ⟨below_drewN HW.out.1 _, HW.out.2⟩⟩
          · have hd' : decide (f.depth < m[k].depth) = false := decide_eq_false hd
            have G : Hid (extM m a b = ((k : Int) == b)) := Lib.hid (by
              rw [HR.out, ← HK.out.2.1, upM_stop (entAt_nat hk) hd])
            clear cw c6 hd
            generalize m[k].depth = dk at c7 hd'
            obtain ⟨y, hy⟩ : ∃ y, ((k : Int) == b) = y := ⟨_, rfl⟩
            rw [hy] at G
            go_wp2_with fail
            go_quiet (fail)
            go_wp2
            go_ret
            exact ⟨by rw [G.out]; rfl, below_drewN HBR.out _⟩
      · have q8 := below_cell' hb1 H9.out.k8
        have HC := Lib.hid (contains_ints b (H9.out.clo.alike (Alike.of_below hb1 HS.out)))
        clear hb1
        by_cases hab : a = b
        · have hab' : (a == b) = true := by simpa using hab
          have G : Hid (extM m a b = true) := Lib.hid (by rw [HEX.out, if_pos rfl, hab']; rfl)
          clear hab
          go_wp2
          go_ret
          exact ⟨by rw [G.out]; rfl, HB1.out⟩
        · have hab' : (a == b) = false := by simpa using hab
          have G : Hid (extM m a b = e.closure.contains b) := Lib.hid (by rw [HEX.out, if_pos rfl, hab']; rfl)
          clear hab
          generalize e.closure.contains b = cv at HC G
          go_wp2_with fail
          refine HC.out.mono ?_
          rintro _ w' ⟨rfl, rfl⟩
          go_wp2
          go_ret
          exact ⟨by rw [G.out]; rfl, HB1.out⟩
end Go.Proofs.YtipinmbpdgjalaaGreatDoor.Hi
/- Chains. -/
set_option maxRecDepth 100000
set_option maxHeartbeats 1000000
set_option linter.unusedVariables false
set_option linter.unusedSimpArgs false
namespace Go.Proofs.YtipinmbpdgjalaaGreatDoor.Hi
open Go.RowKit Bs

/-- The class, its superclass, and so on. -/
def chainL (m : List EntM) : Nat → Int → List Int
  | 0, _ => []
  | k + 1, a => match entAt m a with
    | some e => a :: (if e.above < 0 then [] else chainL m k e.above)
    | none => []
def chainM (m : List EntM) (id : Int) : List Int × Int := match entAt m id with
  | none => ([], 3)
  | some e => (chainL m (e.depth.toNat + 1) id, 0)

theorem chainL_step {m : List EntM} {k : Nat} (hk : k < m.length) (n : Nat) : chainL m (n + 1) k = (k : Int) :: (if m[k].above < 0 then [] else chainL m n m[k].above) := by
  show (match entAt m (k : Int) with | some e => (k : Int) :: (if e.above < 0 then [] else chainL m n e.above) | none => []) = _
  rw [entAt_nat hk]
theorem chainL_len {m : List EntM} : ∀ (n : Nat) (a : Int), (chainL m n a).length ≤ n
  | 0, _ => by simp [chainL]
  | n + 1, a => by
    unfold chainL
    split
    · simp only [List.length_cons]
      split
      · simp
      · have := chainL_len (m := m) n ‹EntM›.above
        omega
    · simp

theorem chainL_fits {m : List EntM} (h : WFm m) : ∀ (n : Nat) {i : Nat}, i < m.length → ∀ x ∈ chainL m n i, Fits x
  | 0, i, hi, x, hx => by simp [chainL] at hx
  | n + 1, i, hi, x, hx => by
    rw [chainL_step hi] at hx
    have hl := h.len
    rcases List.mem_cons.1 hx with rfl | hx
    · unfold Fits; omega
    · by_cases hn : m[i].above < 0
      · rw [if_pos hn] at hx; cases hx
      · rw [if_neg hn] at hx
        have ha := h.above i hi
        rw [show m[i].above = ((m[i].above.toNat : Nat) : Int) by omega] at hx
        exact chainL_fits h n (by omega) x hx

theorem Chain {S : Nat → Prop} {bw : Nat} {w : World} {m : List EntM} (h : HW S bw w m) (hS : ∀ k, S k → k < w.heap.size) (a : Int) :
    Calls Tryz.prog 27 #[.pointer (some ⟨bw, 0, none⟩), .int .i64 a] w fun r w' => ∃ ad c, r = .returned (.tuple #[.slice ad (chainM m a).1.length c, .int .i64 (chainM m a).2]) ∧ IntSl (fun b => w.heap.size ≤ b ∧ b < w'.heap.size) w' (.slice ad (chainM m a).1.length c) (chainM m a).1 ∧ Below w.heap.size w w' := by
  unfold chainM
  cases he : entAt m a with
  | none =>
    go_enter Tryz.func27, Tryz.ntmps27
    go_wp2
    go_step3
    go_wp2_with fail
    refine (at_out h he).mono ?_
    rintro e w' ⟨rfl, rfl⟩
    go_wp2
    rw [Exit.noGoto_ret]
    go_ret2
    exact ⟨none, 0, rfl, ⟨none, 0, rfl, Nat.le_refl _, by simp, .inl rfl⟩, Below.refl _ _⟩
  | some e =>
    obtain ⟨be, ia, ic, ma, mc, ca, cc, h9, hc⟩ := at_in h he
    obtain ⟨i, rfl, hi, rfl⟩ := entAt_some he
    clear h9 he
    have HWF := Lib.hid h.wf
    obtain ⟨ga, cap, hga, hents⟩ := ents h
    obtain ⟨g, rfl⟩ : ∃ x, ga = some ⟨x, 0, none⟩ := by
      obtain ⟨g, _, _, _, _, _, _, _, e1, _⟩ := hents i hi
      exact ⟨g, e1⟩
    have HEN := Lib.hid hents
    have HGA := Lib.hid hga
    clear hents h
    show Calls _ _ _ _ fun r w' => ∃ ad c, r = .returned (.tuple #[.slice ad (chainL m (m[i].depth.toNat + 1) i).length c, .int .i64 0]) ∧ IntSl (fun b => w.heap.size ≤ b ∧ b < w'.heap.size) w' (.slice ad (chainL m (m[i].depth.toNat + 1) i).length c) (chainL m (m[i].depth.toNat + 1) i) ∧ Below w.heap.size w w'
    obtain ⟨R, hR⟩ : ∃ R, chainL m (m[i].depth.toNat + 1) i = R := ⟨_, rfl⟩
    have HRL : Hid (R.length ≤ 400) := Lib.hid (by
      rw [← hR]
      have h1 := chainL_len (m := m) (m[i].depth.toNat + 1) i
      have h2 := (HWF.out.depth i hi).2.1
      have h3 := HWF.out.len
      omega)
    have HR := Lib.hid hR
    have HFIT : Hid (∀ x ∈ R, Fits x) := Lib.hid (by rw [← hR]; exact chainL_fits HWF.out _ hi)
    rw [hR]
    go_enter Tryz.func27, Tryz.ntmps27
    go_wp2
    go_step3
    go_wp2_with fail
    refine hc.mono ?_
    rintro _ w' ⟨rfl, rfl⟩
    go_wp2_with fail
    go_step3
    have HSH := Lib.hid hS
    obtain ⟨i0, hi0, hiz0, hiz1, hiz2⟩ := info_parts info_int'
    clear hR hc hga hS
    go_wp2_with fail
    go_loopg [1, 6] m.length (fun gk u u6 wr => ∃ (k : Nat) (hk : k < m.length) (xs : List Int), Hid (k ≤ gk ∧ xs ++ chainL m (m[k].depth.toNat + 1) k = R) ∧ u = .int .i64 k ∧ Hid (wr.ownsRow w.heap.size 3 1 u6 xs.length (xs.map (Value.int .i64))) ∧ Hid (Below w.heap.size w wr))
    case atStart => exact ⟨i, hi, [], Lib.hid ⟨by omega, by simpa using HR.out⟩, rfl, Lib.hid (World.ownsRow_nil _ _ _ _), Lib.hid (Below.refl _ _)⟩
    case round =>
      obtain ⟨k, hk, xs, HK, rfl, hrow, HB⟩ := hrel
      obtain ⟨ra, rc, rfl⟩ := own_slice hrow.out
      obtain ⟨g', bk, x1, x2, x3, x4, x5, x6, y1, y2, y3⟩ := HEN.out k hk
      injection y1 with y1
      injection y1 with y1
      subst y1
      have hkl : (k : Int) < (m.length : Int) := by omega
      have HST := Lib.hid (chainL_step hk m[k].depth.toNat)
      have HXL : Hid (xs.length ≤ 400) := Lib.hid (by have := HRL.out; rw [← HK.out.2] at this; simp at this; omega)
      have HNEW : Hid (∀ j u, ([.int .i64 (k : Int)] : List Value)[j]? = some u → (wr.alloc (.cells #[.int .i64 (k : Int)] 3)).cell? ((⟨wr.heap.size, 0, none⟩ : Addr).add j) = some u) := Lib.hid (by
        intro j u hu
        cases j with
        | zero =>
          obtain rfl : Value.int IntKind.i64 (k : Int) = u := by simpa using hu
          show (wr.alloc _).cell? ⟨wr.heap.size, 0, none⟩ = _
          rw [World.cell?_alloc_new]; rfl
        | succ j => simp at hu)
      have HBA : Hid (Below w.heap.size w (wr.alloc (.cells #[.int .i64 (k : Int)] 3))) := Lib.hid (HB.out.alloc HB.out.size _)
      have hzr := HB.out.size
      have HKEY : Hid (∀ w5, Below w.heap.size w w5 → w5.cell? ⟨bw, 0, none⟩ = some (.slice (some ⟨g, 0, none⟩) m.length cap) ∧ w5.cell? ⟨g, k, none⟩ = some (.pointer (some ⟨bk, 0, none⟩)) ∧ w5.cell? ⟨bk, 6, none⟩ = some (.int .i64 m[k].above)) := Lib.hid fun w5 hb => ⟨below_cell' hb HGA.out, below_cell' hb y2, below_cell' hb y3.k6⟩
      clear y2 y3
      by_cases hn : m[k].above < 0
      · have HL : Hid (xs ++ [(k : Int)] = R) := Lib.hid (by rw [← HK.out.2, HST.out, if_pos hn])
        have hn' : decide (m[k].above < 0) = true := decide_eq_true hn
        clear hn
        generalize m[k].above = ab at HKEY hn'
        go_wp2_with (first | (at_builtin; refine wpList_append_own _ rfl _ _ 62 rfl w.heap.size 3 i0 (.int .i64 0) 1 8 Tryz.underlying62 hi0 hiz0 hiz1 hiz2 rfl (by decide) (.slice ra xs.length rc) xs.length (xs.map (Value.int .i64)) rfl (hrow.out.alloc _) ⟨wr.heap.size, 0, none⟩ 1 1 [.int .i64 (k : Int)] (by simp [Act.eval, Act.put]) rfl HNEW.out (by intro u hu; simp at hu; subst hu; rfl) (by have := HXL.out; unfold maxLen; omega) (by have := HXL.out; omega) (by simp; omega) ?_; intro v1 w5 hown1 hgrow1 hnil1; obtain ⟨g1, cap1, rfl⟩ := own_form hown1; (have HB5 : Hid (Below w.heap.size w w5) := Lib.hid (HBA.out.grown hgrow1 (by simp; omega) (fun q hq => (own_live hrow.out hq).1))); obtain ⟨e1, e2, e3⟩ := HKEY.out w5 HB5.out))
        go_ret2
        have F : Hid (R.length = xs.length + 1) := Lib.hid (by rw [← HL.out]; simp)
        refine ⟨some ⟨g1, 0, none⟩, cap1, by rw [F.out]; rfl, ?_, HB5.out⟩
        have ho : w5.ownsRow w.heap.size 3 1 (.slice (some ⟨g1, 0, none⟩) R.length cap1) R.length (R.map (Value.int .i64)) := by
          rw [← HL.out]; simpa using hown1
        exact IntSl.of_own ho HFIT.out (by have := HRL.out; omega) _ fun b hb => own_live ho hb
      · obtain ⟨p, hp⟩ : ∃ p : Nat, m[k].above = p := ⟨m[k].above.toNat, by omega⟩
        have hpk : p < k := by have := (HWF.out.above k hk).2.1; omega
        have hn' : decide ((p : Int) < 0) = false := decide_eq_false (by omega)
        have HL : Hid ((xs ++ [(k : Int)]) ++ chainL m (m[p].depth.toNat + 1) p = R) := Lib.hid (by
          have h2 := (HWF.out.depth k hk).2.2.1 p (by omega) hp
          have h3 := (HWF.out.depth p (by omega)).1
          rw [← HK.out.2, HST.out, if_neg hn, hp, List.append_assoc]
          rw [show m[k].depth.toNat = m[p].depth.toNat + 1 by omega]
          rfl)
        rw [hp] at HKEY
        clear hn
        go_wp2_with (first | (at_builtin; refine wpList_append_own _ rfl _ _ 62 rfl w.heap.size 3 i0 (.int .i64 0) 1 8 Tryz.underlying62 hi0 hiz0 hiz1 hiz2 rfl (by decide) (.slice ra xs.length rc) xs.length (xs.map (Value.int .i64)) rfl (hrow.out.alloc _) ⟨wr.heap.size, 0, none⟩ 1 1 [.int .i64 (k : Int)] (by simp [Act.eval, Act.put]) rfl HNEW.out (by intro u hu; simp at hu; subst hu; rfl) (by have := HXL.out; unfold maxLen; omega) (by have := HXL.out; omega) (by simp; omega) ?_; intro v1 w5 hown1 hgrow1 hnil1; obtain ⟨g1, cap1, rfl⟩ := own_form hown1; (have HB5 : Hid (Below w.heap.size w w5) := Lib.hid (HBA.out.grown hgrow1 (by simp; omega) (fun q hq => (own_live hrow.out hq).1))); obtain ⟨e1, e2, e3⟩ := HKEY.out w5 HB5.out))
        have HR5 : Hid (w5.ownsRow w.heap.size 3 1 (.slice (some ⟨g1, 0, none⟩) (xs.length + 1) cap1) (xs ++ [(k : Int)]).length ((xs ++ [(k : Int)]).map (Value.int .i64))) := Lib.hid (by simpa using hown1)
        go_roundg p
        case measure => have := HK.out.1; omega
        case rel => exact ⟨p, by omega, xs ++ [(k : Int)], Lib.hid ⟨Nat.le_refl _, HL.out⟩, rfl, HR5, HB5⟩
end Go.Proofs.YtipinmbpdgjalaaGreatDoor.Hi
/- One run-time package. -/
set_option maxRecDepth 100000
set_option maxHeartbeats 1000000
set_option linter.unusedVariables false
set_option linter.unusedSimpArgs false
namespace Go.Proofs.YtipinmbpdgjalaaGreatDoor.Hi
open Go.RowKit Bs

theorem SamePackage_in {S : Nat → Prop} {bw : Nat} {w : World} {m : List EntM} (h : HW S bw w m) (hm : ∀ e ∈ m, e.c.name.size ≤ 1000) {a b : Nat} (ha : a < m.length) (hb : b < m.length) :
    Calls Tryz.prog 99 #[.pointer (some ⟨bw, 0, none⟩), .int .i64 a, .int .i64 b] w fun r w' => r = .returned (.bool (togB m[a].c.name m[b].c.name m[a].c.loader m[b].c.loader)) ∧ Below w.heap.size w w' := by
  obtain ⟨be, ia, ic, ma, mc, ca, cc, h9, hc⟩ := at_in h (entAt_nat ha)
  obtain ⟨bf, ia', ic', ma', mc', ca', cc', h9', hc'⟩ := at_in h (entAt_nat hb)
  have k0 := h9.k0
  have k1 := h9.k1
  have k2 := h9.k2
  have k3 := h9.k3
  have k4 := h9.k4
  have k5 := h9.k5
  have j0 := h9'.k0
  have j1 := h9'.k1
  have j2 := h9'.k2
  have j3 := h9'.k3
  have j4 := h9'.k4
  have j5 := h9'.k5
  have HT := Lib.hid (fun w' => Together m[a].c.name m[b].c.name m[a].c.loader m[b].c.loader (.string m[a].c.super) (.slice ia m[a].c.ifaces.length ic) (.int .i64 m[a].c.flags) (.slice ma m[a].c.meths.length mc) (.string m[b].c.super) (.slice ia' m[b].c.ifaces.length ic') (.int .i64 m[b].c.flags) (.slice ma' m[b].c.meths.length mc') w' (by have := hm _ (List.getElem_mem ha); omega) (by have := hm _ (List.getElem_mem hb); omega))
  clear h9 h9' h hm
  generalize togB m[a].c.name m[b].c.name m[a].c.loader m[b].c.loader = tb at HT
  generalize m[a].c = c at k0 k1 k2 k3 k4 k5 HT
  generalize m[b].c = d at j0 j1 j2 j3 j4 j5 HT
  go_enter Tryz.func99, Tryz.ntmps99
  go_wp2_with fail
  refine hc.mono ?_
  rintro _ w' ⟨rfl, rfl⟩
  go_wp2_with fail
  refine hc'.mono ?_
  rintro _ w' ⟨rfl, rfl⟩
  clear hc hc'
  go_wp2_with fail
  go_still_tail 15, (by kernel_rfl)
  change wpList _ _ _ _ _ w.drew
  go_wp2_with fail
  refine (HT.out _).mono ?_
  rintro e w1 ⟨rfl, hb1⟩
  have HB1 : Hid (Below w.heap.size w w1) := Lib.hid ((Below.drew (Below.refl _ _)).trans hb1)
  clear hb1 k0 k1 k2 k3 k4 k5 j0 j1 j2 j3 j4 j5 HT
  go_wp2
  go_ret
  exact ⟨rfl, HB1.out⟩
end Go.Proofs.YtipinmbpdgjalaaGreatDoor.Hi
