/- What is asked of a world: closures, classes, packages. -/
import Derived.Test.YtmpkdgankficeaaDoorDd
set_option maxRecDepth 100000
set_option maxHeartbeats 4000000
set_option linter.unusedVariables false
set_option linter.unusedSimpArgs false
namespace Go.Proofs.YtmpkdgankficeaaDoor.Hi
open Go.RowKit Bs

/-- The world's numbers fit. -/
theorem clo_fits {m : List EntM} (h : WFm m) {i : Nat} (hi : i < m.length) : (∀ x ∈ m[i].closure, Fits x) ∧ m[i].closure.length ≤ 300 := by
  have hc := h.closed i hi
  have hl := h.len
  refine ⟨fun x hx => ?_, ?_⟩
  · have := hc.2 x hx
    unfold Fits; omega
  · have hok : Okl i m[i].closure := hc
    have := hok.len
    omega

theorem Closure {S : Nat → Prop} {bw : Nat} {w : World} {m : List EntM} (h : HW S bw w m) (id : Int) :
    Calls Tryd.prog 13 #[.pointer (some ⟨bw, 0, none⟩), .int .i64 id] w fun r w' => ∃ a c, r = .returned (.tuple #[.slice a (closureM m id).1.length c, .int .i64 (closureM m id).2]) ∧ IntSl (fun b => w.heap.size ≤ b ∧ b < w'.heap.size) w' (.slice a (closureM m id).1.length c) (closureM m id).1 ∧ Below w.heap.size w w' := by
  unfold closureM
  cases he : entAt m id with
  | none =>
    go_enter Tryd.func13, Tryd.ntmps13
    go_wp2_with fail
    refine (at_out h he).mono ?_
    rintro e w' ⟨rfl, rfl⟩
    go_wp2
    go_ret2
    exact ⟨none, 0, rfl, ⟨none, 0, rfl, Nat.le_refl _, by simp, .inl rfl⟩, Below.refl _ _⟩
  | some e =>
    obtain ⟨be, ia, ic, ma, mc, ca, cc, h9, hc⟩ := at_in h he
    obtain ⟨i, rfl, hi, rfl⟩ := entAt_some he
    have HFT := Lib.hid (clo_fits h.wf hi)
    have k8 := h9.k8
    have HCL := Lib.hid (clone_ints h9.clo)
    clear h9
    show Calls _ _ _ _ fun r w' => ∃ a c, r = .returned (.tuple #[.slice a m[i].closure.length c, .int .i64 0]) ∧ IntSl (fun b => w.heap.size ≤ b ∧ b < w'.heap.size) w' (.slice a m[i].closure.length c) m[i].closure ∧ Below w.heap.size w w'
    generalize m[i].closure = cl at HFT HCL k8 ⊢
    go_enter Tryd.func13, Tryd.ntmps13
    go_wp2_with fail
    refine hc.mono ?_
    rintro _ w' ⟨rfl, rfl⟩
    go_wp2_with fail
    refine HCL.out.mono ?_
    rintro _ w' ⟨a, c, rfl, hown, hb⟩
    have F : Hid (IntSl (fun b => w.heap.size ≤ b ∧ b < w'.heap.size) w' (.slice a cl.length c) cl) := Lib.hid (IntSl.of_own hown HFT.out.1 (by have := HFT.out.2; omega) _ fun b hb' => own_live hown hb')
    clear hown
    go_wp2
    go_ret2
    exact ⟨a, c, rfl, F.out, hb⟩

theorem ClsIs.shape {S : Nat → Prop} {w : World} {c : ClsM} {v0 v1 iv v3 v4 mv : Value} (h : ClsIs S w [v0, v1, iv, v3, v4, mv] c) : StrSl S w iv c.ifaces ∧ MethSl S w mv c.meths := by
  obtain ⟨iv', mv', e, _, _, h1, _, _, h2⟩ := h
  injection e with _ e; injection e with _ e; injection e with e1 e; injection e with _ e; injection e with _ e; injection e with e2 _
  subst e1; subst e2
  exact ⟨h1, h2⟩
/-- The class of a number; the zero class. -/
def classM (m : List EntM) (id : Int) : Option ClsM := (entAt m id).map (·.c)

theorem Class_in {S : Nat → Prop} {bw : Nat} {w : World} {m : List EntM} (h : HW S bw w m) (hS : ∀ k, S k → k < w.heap.size) {id : Int} {e : EntM} (he : entAt m id = some e) :
    Calls Tryd.prog 12 #[.pointer (some ⟨bw, 0, none⟩), .int .i64 id] w fun r w' => ∃ cs' : List Value, r = .returned (.tuple #[.agg cs'.toArray, .int .i64 0]) ∧ ClsIs (fun b => w.heap.size ≤ b ∧ b < w'.heap.size) w' cs' e.c ∧ Below w.heap.size w w' := by
  obtain ⟨wa, hwa⟩ : ∃ wa, wa = w.alloc (.cells #[.string ⟨#[]⟩, .string ⟨#[]⟩, .slice none 0 0, .int .i64 0, .int .i64 0, .slice none 0 0] 32) := ⟨_, rfl⟩
  have hba : Below w.heap.size w wa := by rw [hwa]; exact (Below.refl _ _).alloc (Nat.le_refl _) _
  have hza : wa.heap.size = w.heap.size + 1 := by rw [hwa]; simp
  have r0 : ∀ j v, (#[Value.string ⟨#[]⟩, .string ⟨#[]⟩, .slice none 0 0, .int .i64 0, .int .i64 0, .slice none 0 0])[j]? = some v → wa.cell? ⟨w.heap.size, j, none⟩ = some v := fun j v hv => by
    rw [hwa]; exact (World.cell?_alloc_new ..).trans hv
  have f0 : ∀ j, wa.frozen? ⟨w.heap.size, j, none⟩ = false := fun j => by rw [hwa]; exact frozen_new ..
  have HR := Lib.hid (And.intro r0 f0)
  have h' := h.alike hba.size (Alike.of_below hba hS)
  have hS' : ∀ k, S k → k < wa.heap.size := fun k hk => Nat.lt_of_lt_of_le (hS k hk) hba.size
  have HBA := Lib.hid hba
  obtain ⟨be, ia, ic, ma, mc, ca, cc, h9, hc⟩ := at_in h' he
  have k0 := h9.k0
  have k1 := h9.k1
  have k2 := h9.k2
  have k3 := h9.k3
  have k4 := h9.k4
  have k5 := h9.k5
  have HCO := Lib.hid (copied S e.c _ wa h9.cls hS')
  have HSH := Lib.hid (ClsIs.shape h9.cls)
  clear h9 r0 f0 h' hS' hba h hS
  go_enter Tryd.func12, Tryd.ntmps12
  go_wp2_with fail
  rw [← hwa]
  clear hwa
  refine hc.mono ?_
  rintro _ w' ⟨rfl, rfl⟩
  go_wp2_with fail
  refine HCO.out.mono ?_
  rintro _ w2 ⟨cs', rfl, hcl, hb2⟩
  have hcl' := hcl
  obtain ⟨iv, mv, rfl, _⟩ := hcl'
  obtain ⟨ia', ic', rfl, _⟩ := (ClsIs.shape hcl).1
  obtain ⟨ma', mc', rfl, _⟩ := (ClsIs.shape hcl).2
  have hz2 := hb2.size
  have s0 := below_cell' hb2 (HR.out.1 0 _ rfl)
  have s1 := below_cell' hb2 (HR.out.1 1 _ rfl)
  have s2 := below_cell' hb2 (HR.out.1 2 _ rfl)
  have s3 := below_cell' hb2 (HR.out.1 3 _ rfl)
  have s4 := below_cell' hb2 (HR.out.1 4 _ rfl)
  have s5 := below_cell' hb2 (HR.out.1 5 _ rfl)
  have t : ∀ j, w2.frozen? ⟨w.heap.size, j, none⟩ = false := fun j => (World.frozen?_of_block (w := wa) (a := ⟨w.heap.size, j, none⟩) (hb2.block _ (show w.heap.size < wa.heap.size by omega))).trans (HR.out.2 j)
  have t0 := t 0
  have t1 := t 1
  have t2 := t 2
  have t3 := t 3
  have t4 := t 4
  have t5 := t 5
  simp only [List.getElem_toArray, List.getElem_cons_zero, List.getElem_cons_succ] at s0 s1 s2 s3 s4 s5
  have HB2 := Lib.hid (HBA.out.trans (hb2.mono HBA.out.size))
  have HCL := Lib.hid hcl
  clear hcl t hb2
  go_wp2
  have key := set6 (v0 := .string e.c.name) (v1 := .string e.c.super) (v2 := .slice ia' e.c.ifaces.length ic') (v3 := .int .i64 e.c.flags) (v4 := .int .i64 e.c.loader) (v5 := .slice ma' e.c.meths.length mc') s0 s1 s2 s3 s4 s5
  refine bodyPost_ret (results_cells_tmp rfl _ _ w.heap.size [.string e.c.name, .string e.c.super, .slice ia' e.c.ifaces.length ic', .int .i64 e.c.flags, .int .i64 e.c.loader, .slice ma' e.c.meths.length mc'] _ rfl (six key.1 key.2.1 key.2.2.1 key.2.2.2.1 key.2.2.2.2.1 key.2.2.2.2.2) Tryd.underlying32 rfl class_info) rfl ⟨_, rfl, ?_, ?_⟩
  · refine (HCL.out.alike (w' := _) fun b hb => ?_).mono fun b hb => ⟨by omega, by simp; omega⟩
    iterate 6 rw [Below.heap_setCell _ _ _ _ (show b ≠ w.heap.size by omega)]
  · exact (((((HB2.out.setCell (Nat.le_refl _) _).setCell (Nat.le_refl _) _).setCell (Nat.le_refl _) _).setCell (Nat.le_refl _) _).setCell (Nat.le_refl _) _).setCell (Nat.le_refl _) _
end Go.Proofs.YtmpkdgankficeaaDoor.Hi
