/- A method's place and a method, of a world of classes. -/
import Derived.Test.YtmenknflabohhaaGreatDoorME
import Derived.Test.YtmenknflabohhaaGreatDoorMX
import Derived.BigRegion
set_option maxRecDepth 100000
set_option maxHeartbeats 1000000
set_option linter.unusedVariables false
set_option linter.unusedSimpArgs false
namespace Go.Proofs.YtmenknflabohhaaGreatDoor.Hi
open Go.RowKit Bs

/-- A method's place in a class, and the error. -/
def findE (e : EntM) (n d : ByteArray) : Int × Int := if Pr.findM e.c.meths n d < 0 then (0, 6) else (Pr.findM e.c.meths n d, 0)

theorem Find_in {S : Nat → Prop} {bw : Nat} {w : World} {m : List EntM} (h : HW S bw w m) (hS : ∀ k, S k → k < w.heap.size) {id : Int} {e : EntM} (he : entAt m id = some e) (n d : ByteArray) :
    Calls Tryz.prog 17 #[.pointer (some ⟨bw, 0, none⟩), .int .i64 id, .string n, .string d] w fun r w' => r = .returned (.tuple #[.int .i64 (findE e n d).1, .int .i64 (findE e n d).2]) ∧ Below w.heap.size w w' := by
  obtain ⟨be, ia, ic, ma, mc, ca, cc, h9, hc⟩ := at_in h he
  have k0 := h9.k0
  have k1 := h9.k1
  have k2 := h9.k2
  have k3 := h9.k3
  have k4 := h9.k4
  have k5 := h9.k5
  have HF := Lib.hid (Pr.Find S e.c.meths ma mc n d w (.string e.c.name) (.string e.c.super) (.slice ia e.c.ifaces.length ic) (.int .i64 e.c.flags) (.int .i64 e.c.loader) (ClsIs.shape h9.cls).2 hS)
  clear h9 h hS
  have HE : Hid (findE e n d = if Pr.findM e.c.meths n d < 0 then (0, 6) else (Pr.findM e.c.meths n d, 0)) := Lib.hid rfl
  generalize findE e n d = fe at HE
  generalize Pr.findM e.c.meths n d = fm at HE HF
  go_enter Tryz.func17, Tryz.ntmps17
  go_wp2_with fail
  refine hc.mono ?_
  rintro _ w' ⟨rfl, rfl⟩
  go_wp2_with fail
  refine HF.out.mono ?_
  rintro _ w1 ⟨rfl, hb⟩
  clear k0 k1 k2 k3 k4 k5 hc HF
  by_cases hn : fm < 0
  · have G : Hid (fe = (0, 6)) := Lib.hid (HE.out.trans (if_pos hn))
    have hn' : decide (fm < 0) = true := decide_eq_true hn
    clear hn
    go_wp2
    go_ret2
    exact ⟨by rw [G.out]; rfl, hb⟩
  · have G : Hid (fe = (fm, 0)) := Lib.hid (HE.out.trans (if_neg hn))
    have hn' : decide (fm < 0) = false := decide_eq_false hn
    clear hn
    go_wp2
    go_ret2
    exact ⟨by rw [G.out]; rfl, hb⟩

theorem MethSl.fits {S : Nat → Prop} {w : World} {v : Value} {xs : List MethM} (h : MethSl S w v xs) {k : Nat} (hk : k < xs.length) : xs[k].name.size ≤ maxLen ∧ xs[k].desc.size ≤ maxLen ∧ Fits xs[k].flags ∧ Fits xs[k].locals ∧ Fits xs[k].stack := by
  obtain ⟨a', c', hf, h2, h3, h4⟩ := h
  rcases h4 with h4 | ⟨b, o, rfl, hS, h4⟩
  · rw [h4] at hk; simp at hk
  · obtain ⟨cs, g1, g2, cv, rfl, q1, q2, q3, q4, q5, _⟩ := h4 k hk
    exact ⟨q1, q2, q3, q4, q5⟩

theorem Method_out {S : Nat → Prop} {bw : Nat} {w : World} {m : List EntM} (h : HW S bw w m) (hS : ∀ k, S k → k < w.heap.size) {a b : Int} {e : EntM} (he : entAt m a = some e) (hb : b < 0 ∨ (e.c.meths.length : Int) ≤ b) :
    Calls Tryz.prog 12 #[.pointer (some ⟨bw, 0, none⟩), .agg #[.int .i64 a, .int .i64 b]] w fun r w' => r = .returned (.tuple #[zeroMeth, .int .i64 3]) ∧ Below w.heap.size w w' := by
  obtain ⟨wa, hwa⟩ : ∃ wa, wa = (w.alloc (.cells #[.int .i64 a, .int .i64 b] 28)).alloc (.cells #[Value.string ⟨#[]⟩, .string ⟨#[]⟩, .int .i64 0, .int .i64 0, .int .i64 0, .slice none 0 0] 45) := ⟨_, rfl⟩
  have hba : Below w.heap.size w wa := by rw [hwa]; exact ((Below.refl _ _).alloc (Nat.le_refl _) _).alloc (by simp) _
  have hza : wa.heap.size = w.heap.size + 2 := by rw [hwa]; simp
  have i0 : wa.cell? ⟨w.heap.size, 0, none⟩ = some (.int .i64 a) := by rw [hwa]; exact alloc_old (World.cell?_alloc_new ..)
  have i1 : wa.cell? ⟨w.heap.size, 1, none⟩ = some (.int .i64 b) := by rw [hwa]; exact alloc_old (World.cell?_alloc_new ..)
  have r0 : ∀ j v, (#[Value.string ⟨#[]⟩, .string ⟨#[]⟩, .int .i64 0, .int .i64 0, .int .i64 0, .slice none 0 0])[j]? = some v → wa.cell? ⟨w.heap.size + 1, j, none⟩ = some v := fun j v hv => by
    rw [hwa]
    have := World.cell?_alloc_new (w.alloc (.cells #[.int .i64 a, .int .i64 b] 28)) #[Value.string ⟨#[]⟩, .string ⟨#[]⟩, .int .i64 0, .int .i64 0, .int .i64 0, .slice none 0 0] 45 j
    rw [World.size_alloc] at this
    exact this.trans hv
  have f0 : ∀ j, wa.frozen? ⟨w.heap.size + 1, j, none⟩ = false := fun j => by
    rw [hwa]
    have := frozen_new (w.alloc (.cells #[.int .i64 a, .int .i64 b] 28)) #[Value.string ⟨#[]⟩, .string ⟨#[]⟩, .int .i64 0, .int .i64 0, .int .i64 0, .slice none 0 0] 45 j
    rw [World.size_alloc] at this
    exact this
  have h' := h.alike hba.size (Alike.of_below hba hS)
  have hS' : ∀ k, S k → k < wa.heap.size := fun k hk => Nat.lt_of_lt_of_le (hS k hk) hba.size
  obtain ⟨be, ia, ic, ma, mc, ca, cc, h9, hc⟩ := at_in h' he
  have k5 := h9.k5
  have HR := Lib.hid (And.intro r0 f0)
  have HBA := Lib.hid hba
  have HZA := Lib.hid hza
  have HMS := Lib.hid (And.intro (ClsIs.shape h9.cls).2 hS')
  clear h9 h' hS' r0 f0 hba hza h hS
  obtain ⟨y1, hy1⟩ : ∃ y, decide (b < 0) = y := ⟨_, rfl⟩
  obtain ⟨y2, hy2⟩ : ∃ y, decide ((e.c.meths.length : Int) ≤ b) = y := ⟨_, rfl⟩
  have hy : (y1 || y2) = true := by rw [← hy1, ← hy2]; simpa using hb
  clear hb
  cases y1 <;> cases y2 <;> first | (exfalso; cases hy; done) | skip
  all_goals
    clear hy
    go_enter Tryz.func12, Tryz.ntmps12
    go_wp2_with fail
    rw [← hwa]
    clear hwa
    refine hc.mono ?_
    rintro _ w' ⟨rfl, rfl⟩
    have s0 := HR.out.1 0 _ rfl
    have s1 := HR.out.1 1 _ rfl
    have s2 := HR.out.1 2 _ rfl
    have s3 := HR.out.1 3 _ rfl
    have s4 := HR.out.1 4 _ rfl
    have s5 := HR.out.1 5 _ rfl
    have t0 := HR.out.2 0
    have t1 := HR.out.2 1
    have t2 := HR.out.2 2
    have t3 := HR.out.2 3
    have t4 := HR.out.2 4
    have t5 := HR.out.2 5
    simp only [List.getElem_toArray, List.getElem_cons_zero, List.getElem_cons_succ] at s0 s1 s2 s3 s4 s5
    go_wp2_with fail
    go_quiet (fail)
    go_wp2
    have key := set6 (w := wa.drewN nq) (v0 := .string ⟨#[]⟩) (v1 := .string ⟨#[]⟩) (v2 := .int .i64 0) (v3 := .int .i64 0) (v4 := .int .i64 0) (v5 := .slice none 0 0) s0 s1 s2 s3 s4 s5
    refine bodyPost_ret (results_cells_tmp rfl _ _ (w.heap.size + 1) [.string ⟨#[]⟩, .string ⟨#[]⟩, .int .i64 0, .int .i64 0, .int .i64 0, .slice none 0 0] _ rfl (six key.1 key.2.1 key.2.2.1 key.2.2.2.1 key.2.2.2.2.1 key.2.2.2.2.2) Tryz.underlying45 rfl meth_info) rfl ⟨rfl, ?_⟩
    have hq : w.heap.size ≤ w.heap.size + 1 := by omega
    exact ((((((below_drewN HBA.out _).setCell hq _).setCell hq _).setCell hq _).setCell hq _).setCell hq _).setCell hq _

theorem Method_in {S : Nat → Prop} {bw : Nat} {w : World} {m : List EntM} (h : HW S bw w m) (hS : ∀ k, S k → k < w.heap.size) {a : Int} {b : Nat} {e : EntM} (he : entAt m a = some e) (hb : b < e.c.meths.length) :
    Calls Tryz.prog 12 #[.pointer (some ⟨bw, 0, none⟩), .agg #[.int .i64 a, .int .i64 b]] w fun r w' => ∃ cs' : List Value, r = .returned (.tuple #[.agg cs'.toArray, .int .i64 0]) ∧ MethIs (fun b => w.heap.size ≤ b ∧ b < w'.heap.size) w' cs' e.c.meths[b] ∧ Below w.heap.size w w' := by
  obtain ⟨wa, hwa⟩ : ∃ wa, wa = (w.alloc (.cells #[.int .i64 a, .int .i64 (b : Int)] 28)).alloc (.cells #[Value.string ⟨#[]⟩, .string ⟨#[]⟩, .int .i64 0, .int .i64 0, .int .i64 0, .slice none 0 0] 45) := ⟨_, rfl⟩
  have hba : Below w.heap.size w wa := by rw [hwa]; exact ((Below.refl _ _).alloc (Nat.le_refl _) _).alloc (by simp) _
  have hza : wa.heap.size = w.heap.size + 2 := by rw [hwa]; simp
  have i0 : wa.cell? ⟨w.heap.size, 0, none⟩ = some (.int .i64 a) := by rw [hwa]; exact alloc_old (World.cell?_alloc_new ..)
  have i1 : wa.cell? ⟨w.heap.size, 1, none⟩ = some (.int .i64 (b : Int)) := by rw [hwa]; exact alloc_old (World.cell?_alloc_new ..)
  have r0 : ∀ j v, (#[Value.string ⟨#[]⟩, .string ⟨#[]⟩, .int .i64 0, .int .i64 0, .int .i64 0, .slice none 0 0])[j]? = some v → wa.cell? ⟨w.heap.size + 1, j, none⟩ = some v := fun j v hv => by
    rw [hwa]
    have := World.cell?_alloc_new (w.alloc (.cells #[.int .i64 a, .int .i64 (b : Int)] 28)) #[Value.string ⟨#[]⟩, .string ⟨#[]⟩, .int .i64 0, .int .i64 0, .int .i64 0, .slice none 0 0] 45 j
    rw [World.size_alloc] at this
    exact this.trans hv
  have f0 : ∀ j, wa.frozen? ⟨w.heap.size + 1, j, none⟩ = false := fun j => by
    rw [hwa]
    have := frozen_new (w.alloc (.cells #[.int .i64 a, .int .i64 (b : Int)] 28)) #[Value.string ⟨#[]⟩, .string ⟨#[]⟩, .int .i64 0, .int .i64 0, .int .i64 0, .slice none 0 0] 45 j
    rw [World.size_alloc] at this
    exact this
  have h' := h.alike hba.size (Alike.of_below hba hS)
  have hS' : ∀ k, S k → k < wa.heap.size := fun k hk => Nat.lt_of_lt_of_le (hS k hk) hba.size
  obtain ⟨be, ia, ic, ma, mc, ca, cc, h9, hc⟩ := at_in h' he
  have k5 := h9.k5
  have HR := Lib.hid (And.intro r0 f0)
  have HBA := Lib.hid hba
  have HZA := Lib.hid hza
  have HMS := Lib.hid (And.intro (ClsIs.shape h9.cls).2 hS')
  clear h9 h' hS' r0 f0 hba hza h hS
  have hb1 : decide ((b : Int) < 0) = false := decide_eq_false (by omega)
  have hb2 : decide ((e.c.meths.length : Int) ≤ (b : Int)) = false := decide_eq_false (by omega)
  have hb3 : (b : Int) < (e.c.meths.length : Int) := by omega
  have hb4 : decide (e.c.meths.length ≤ b) = false := decide_eq_false (by omega)
  obtain ⟨bb, oo, da, dc, rfl, g0, g1, g2, g3, g4, g5, gi⟩ := MethSl.elem HMS.out.1 hb
  have HGI := Lib.hid gi
  have HXF := Lib.hid (MethSl.fits HMS.out.1 hb)
  clear gi
  generalize e.c.meths[b] = x at g0 g1 g2 g3 g4 g5 HGI HXF
  go_enter Tryz.func12, Tryz.ntmps12
  go_wp2_with fail
  rw [← hwa]
  clear hwa
  refine hc.mono ?_
  rintro _ w' ⟨rfl, rfl⟩
  go_wp2_with fail
  go_quiet (fail)
  go_wp2_with fail
  have k5' : ((wa.drewN (nq + 1)).alloc (.cells #[Value.string ⟨#[]⟩, .string ⟨#[]⟩, .int .i64 0, .int .i64 0, .int .i64 0, .slice none 0 0] 45)).cell? ⟨be, 5, none⟩ = _ := alloc_old (w := wa.drewN (nq + 1)) k5
  have i1' : ((wa.drewN (nq + 1)).alloc (.cells #[Value.string ⟨#[]⟩, .string ⟨#[]⟩, .int .i64 0, .int .i64 0, .int .i64 0, .slice none 0 0] 45)).cell? ⟨w.heap.size, 1, none⟩ = _ := alloc_old (w := wa.drewN (nq + 1)) i1
  have g0' : ((wa.drewN (nq + 1)).alloc (.cells #[Value.string ⟨#[]⟩, .string ⟨#[]⟩, .int .i64 0, .int .i64 0, .int .i64 0, .slice none 0 0] 45)).cell? ⟨bb, oo + b * 6, none⟩ = _ := alloc_old (w := wa.drewN (nq + 1)) g0
  have g1' : ((wa.drewN (nq + 1)).alloc (.cells #[Value.string ⟨#[]⟩, .string ⟨#[]⟩, .int .i64 0, .int .i64 0, .int .i64 0, .slice none 0 0] 45)).cell? ⟨bb, oo + b * 6 + 1, none⟩ = _ := alloc_old (w := wa.drewN (nq + 1)) g1
  have g2' : ((wa.drewN (nq + 1)).alloc (.cells #[Value.string ⟨#[]⟩, .string ⟨#[]⟩, .int .i64 0, .int .i64 0, .int .i64 0, .slice none 0 0] 45)).cell? ⟨bb, oo + b * 6 + 2, none⟩ = _ := alloc_old (w := wa.drewN (nq + 1)) g2
  have g3' : ((wa.drewN (nq + 1)).alloc (.cells #[Value.string ⟨#[]⟩, .string ⟨#[]⟩, .int .i64 0, .int .i64 0, .int .i64 0, .slice none 0 0] 45)).cell? ⟨bb, oo + b * 6 + 3, none⟩ = _ := alloc_old (w := wa.drewN (nq + 1)) g3
  have g4' : ((wa.drewN (nq + 1)).alloc (.cells #[Value.string ⟨#[]⟩, .string ⟨#[]⟩, .int .i64 0, .int .i64 0, .int .i64 0, .slice none 0 0] 45)).cell? ⟨bb, oo + b * 6 + 4, none⟩ = _ := alloc_old (w := wa.drewN (nq + 1)) g4
  have g5' : ((wa.drewN (nq + 1)).alloc (.cells #[Value.string ⟨#[]⟩, .string ⟨#[]⟩, .int .i64 0, .int .i64 0, .int .i64 0, .slice none 0 0] 45)).cell? ⟨bb, oo + b * 6 + 5, none⟩ = _ := alloc_old (w := wa.drewN (nq + 1)) g5
  have n0 : ((wa.drewN (nq + 1)).alloc (.cells #[Value.string ⟨#[]⟩, .string ⟨#[]⟩, .int .i64 0, .int .i64 0, .int .i64 0, .slice none 0 0] 45)).cell? ⟨wa.heap.size, 0, none⟩ = some (.string ⟨#[]⟩) := World.cell?_alloc_new (wa.drewN (nq + 1)) #[Value.string ⟨#[]⟩, .string ⟨#[]⟩, .int .i64 0, .int .i64 0, .int .i64 0, .slice none 0 0] 45 0
  have m0 : ((wa.drewN (nq + 1)).alloc (.cells #[Value.string ⟨#[]⟩, .string ⟨#[]⟩, .int .i64 0, .int .i64 0, .int .i64 0, .slice none 0 0] 45)).frozen? ⟨wa.heap.size, 0, none⟩ = false := frozen_new (wa.drewN (nq + 1)) #[Value.string ⟨#[]⟩, .string ⟨#[]⟩, .int .i64 0, .int .i64 0, .int .i64 0, .slice none 0 0] 45 0
  have n1 : ((wa.drewN (nq + 1)).alloc (.cells #[Value.string ⟨#[]⟩, .string ⟨#[]⟩, .int .i64 0, .int .i64 0, .int .i64 0, .slice none 0 0] 45)).cell? ⟨wa.heap.size, 1, none⟩ = some (.string ⟨#[]⟩) := World.cell?_alloc_new (wa.drewN (nq + 1)) #[Value.string ⟨#[]⟩, .string ⟨#[]⟩, .int .i64 0, .int .i64 0, .int .i64 0, .slice none 0 0] 45 1
  have m1 : ((wa.drewN (nq + 1)).alloc (.cells #[Value.string ⟨#[]⟩, .string ⟨#[]⟩, .int .i64 0, .int .i64 0, .int .i64 0, .slice none 0 0] 45)).frozen? ⟨wa.heap.size, 1, none⟩ = false := frozen_new (wa.drewN (nq + 1)) #[Value.string ⟨#[]⟩, .string ⟨#[]⟩, .int .i64 0, .int .i64 0, .int .i64 0, .slice none 0 0] 45 1
  have n2 : ((wa.drewN (nq + 1)).alloc (.cells #[Value.string ⟨#[]⟩, .string ⟨#[]⟩, .int .i64 0, .int .i64 0, .int .i64 0, .slice none 0 0] 45)).cell? ⟨wa.heap.size, 2, none⟩ = some (.int .i64 0) := World.cell?_alloc_new (wa.drewN (nq + 1)) #[Value.string ⟨#[]⟩, .string ⟨#[]⟩, .int .i64 0, .int .i64 0, .int .i64 0, .slice none 0 0] 45 2
  have m2 : ((wa.drewN (nq + 1)).alloc (.cells #[Value.string ⟨#[]⟩, .string ⟨#[]⟩, .int .i64 0, .int .i64 0, .int .i64 0, .slice none 0 0] 45)).frozen? ⟨wa.heap.size, 2, none⟩ = false := frozen_new (wa.drewN (nq + 1)) #[Value.string ⟨#[]⟩, .string ⟨#[]⟩, .int .i64 0, .int .i64 0, .int .i64 0, .slice none 0 0] 45 2
  have n3 : ((wa.drewN (nq + 1)).alloc (.cells #[Value.string ⟨#[]⟩, .string ⟨#[]⟩, .int .i64 0, .int .i64 0, .int .i64 0, .slice none 0 0] 45)).cell? ⟨wa.heap.size, 3, none⟩ = some (.int .i64 0) := World.cell?_alloc_new (wa.drewN (nq + 1)) #[Value.string ⟨#[]⟩, .string ⟨#[]⟩, .int .i64 0, .int .i64 0, .int .i64 0, .slice none 0 0] 45 3
  have m3 : ((wa.drewN (nq + 1)).alloc (.cells #[Value.string ⟨#[]⟩, .string ⟨#[]⟩, .int .i64 0, .int .i64 0, .int .i64 0, .slice none 0 0] 45)).frozen? ⟨wa.heap.size, 3, none⟩ = false := frozen_new (wa.drewN (nq + 1)) #[Value.string ⟨#[]⟩, .string ⟨#[]⟩, .int .i64 0, .int .i64 0, .int .i64 0, .slice none 0 0] 45 3
  have n4 : ((wa.drewN (nq + 1)).alloc (.cells #[Value.string ⟨#[]⟩, .string ⟨#[]⟩, .int .i64 0, .int .i64 0, .int .i64 0, .slice none 0 0] 45)).cell? ⟨wa.heap.size, 4, none⟩ = some (.int .i64 0) := World.cell?_alloc_new (wa.drewN (nq + 1)) #[Value.string ⟨#[]⟩, .string ⟨#[]⟩, .int .i64 0, .int .i64 0, .int .i64 0, .slice none 0 0] 45 4
  have m4 : ((wa.drewN (nq + 1)).alloc (.cells #[Value.string ⟨#[]⟩, .string ⟨#[]⟩, .int .i64 0, .int .i64 0, .int .i64 0, .slice none 0 0] 45)).frozen? ⟨wa.heap.size, 4, none⟩ = false := frozen_new (wa.drewN (nq + 1)) #[Value.string ⟨#[]⟩, .string ⟨#[]⟩, .int .i64 0, .int .i64 0, .int .i64 0, .slice none 0 0] 45 4
  have n5 : ((wa.drewN (nq + 1)).alloc (.cells #[Value.string ⟨#[]⟩, .string ⟨#[]⟩, .int .i64 0, .int .i64 0, .int .i64 0, .slice none 0 0] 45)).cell? ⟨wa.heap.size, 5, none⟩ = some (.slice none 0 0) := World.cell?_alloc_new (wa.drewN (nq + 1)) #[Value.string ⟨#[]⟩, .string ⟨#[]⟩, .int .i64 0, .int .i64 0, .int .i64 0, .slice none 0 0] 45 5
  have m5 : ((wa.drewN (nq + 1)).alloc (.cells #[Value.string ⟨#[]⟩, .string ⟨#[]⟩, .int .i64 0, .int .i64 0, .int .i64 0, .slice none 0 0] 45)).frozen? ⟨wa.heap.size, 5, none⟩ = false := frozen_new (wa.drewN (nq + 1)) #[Value.string ⟨#[]⟩, .string ⟨#[]⟩, .int .i64 0, .int .i64 0, .int .i64 0, .slice none 0 0] 45 5
  go_region
  obtain ⟨wx, hwx⟩ : ∃ wx, wx = ((((((((wa.drewN (nq + 1)).alloc (.cells #[Value.string ⟨#[]⟩, .string ⟨#[]⟩, .int .i64 0, .int .i64 0, .int .i64 0, .slice none 0 0] 45)).setCell ⟨wa.heap.size, 0, none⟩ (.string x.name)).setCell ⟨wa.heap.size, 1, none⟩ (.string x.desc)).setCell ⟨wa.heap.size, 2, none⟩ (.int .i64 x.flags)).setCell ⟨wa.heap.size, 3, none⟩ (.int .i64 x.locals)).setCell ⟨wa.heap.size, 4, none⟩ (.int .i64 x.stack)).setCell ⟨wa.heap.size, 5, none⟩ (.slice da x.code.length dc)) := ⟨_, rfl⟩
  rw [← hwx]
  have key := set6 (w := ((wa.drewN (nq + 1)).alloc (.cells #[Value.string ⟨#[]⟩, .string ⟨#[]⟩, .int .i64 0, .int .i64 0, .int .i64 0, .slice none 0 0] 45))) (g := wa.heap.size) (v0 := .string x.name) (v1 := .string x.desc) (v2 := .int .i64 x.flags) (v3 := .int .i64 x.locals) (v4 := .int .i64 x.stack) (v5 := .slice da x.code.length dc) n0 n1 n2 n3 n4 n5
  rw [← hwx] at key
  have hqz := HZA.out
  have hbx : Below wa.heap.size wa wx := by
    rw [hwx]
    exact (((((((below_drewN (Below.refl _ wa) (nq + 1)).alloc (Nat.le_refl _) _).setCell (Nat.le_refl _) _).setCell (Nat.le_refl _) _).setCell (Nat.le_refl _) _).setCell (Nat.le_refl _) _).setCell (Nat.le_refl _) _).setCell (Nat.le_refl _) _
  have hfx : ∀ j, wx.frozen? ⟨wa.heap.size, j, none⟩ = false := fun j => by
    rw [hwx]
    iterate 6 rw [World.frozen?_setCell]
    exact frozen_new (wa.drewN (nq + 1)) #[Value.string ⟨#[]⟩, .string ⟨#[]⟩, .int .i64 0, .int .i64 0, .int .i64 0, .slice none 0 0] 45 j
  have hzx : wa.heap.size < wx.heap.size := World.block_lt_of_cell? _ _ key.1
  have HBX := Lib.hid hbx
  have HBW : Hid (Below w.heap.size w wx) := Lib.hid (HBA.out.trans (hbx.mono HBA.out.size))
  have HKEY := Lib.hid key
  have HFX := Lib.hid hfx
  have HRX : Hid ((∀ j v, (#[Value.string ⟨#[]⟩, .string ⟨#[]⟩, .int .i64 0, .int .i64 0, .int .i64 0, .slice none 0 0])[j]? = some v → wx.cell? ⟨w.heap.size + 1, j, none⟩ = some v) ∧ ∀ j, wx.frozen? ⟨w.heap.size + 1, j, none⟩ = false) := Lib.hid ⟨fun j v hv => below_cell' hbx (HR.out.1 j v hv), fun j => (World.frozen?_of_block (w := wa) (a := ⟨w.heap.size + 1, j, none⟩) (hbx.block _ (show w.heap.size + 1 < wa.heap.size by omega))).trans (HR.out.2 j)⟩
  have HCL := Lib.hid (clone_insts (HGI.out.alike (Alike.of_below hbx HMS.out.2)))
  have HNE : Hid (wa.heap.size ≠ w.heap.size + 1 ∧ w.heap.size + 2 ≤ wa.heap.size ∧ wa.heap.size < wx.heap.size) := Lib.hid ⟨by omega, by omega, hzx⟩
  obtain ⟨c0, c1, c2, c3, c4, c5⟩ := key
  clear n0 m0 g0 g0' n1 m1 g1 g1' n2 m2 g2 g2' n3 m3 g3 g3' n4 m4 g4 g4' n5 m5 g5 g5' k5 k5' i1 i1' i0 hwx hbx hfx HR HBA HZA HMS hc hb1 hb2 hb3 hb4 HBX HGI hqz hzx
  generalize wa.heap.size = q2 at HKEY HFX HNE c0 c1 c2 c3 c4 c5 ⊢
  go_wp2_with fail
  refine HCL.out.mono ?_
  rintro _ w1 ⟨a', c', rfl, hsl, hb1⟩
  have c0 := below_cell' hb1 c0
  have c1 := below_cell' hb1 c1
  have c2 := below_cell' hb1 c2
  have c3 := below_cell' hb1 c3
  have c4 := below_cell' hb1 c4
  have c5 := below_cell' hb1 c5
  have fz : w1.frozen? ⟨q2, 5, none⟩ = false := (World.frozen?_of_block (w := wx) (a := ⟨q2, 5, none⟩) (hb1.block _ HNE.out.2.2)).trans (HFX.out 5)
  have HB1 := Lib.hid (HBW.out.trans (hb1.mono HBW.out.size))
  have HSL := Lib.hid hsl
  have hne := HNE.out.1
  have s0 := below_cell' hb1 (HRX.out.1 0 _ rfl)
  have s1 := below_cell' hb1 (HRX.out.1 1 _ rfl)
  have s2 := below_cell' hb1 (HRX.out.1 2 _ rfl)
  have s3 := below_cell' hb1 (HRX.out.1 3 _ rfl)
  have s4 := below_cell' hb1 (HRX.out.1 4 _ rfl)
  have s5 := below_cell' hb1 (HRX.out.1 5 _ rfl)
  have t0 : w1.frozen? ⟨w.heap.size + 1, 0, none⟩ = false := (World.frozen?_of_block (w := wx) (a := ⟨w.heap.size + 1, 0, none⟩) (hb1.block _ (show w.heap.size + 1 < wx.heap.size from World.block_lt_of_cell? wx ⟨w.heap.size + 1, 0, none⟩ (HRX.out.1 0 _ rfl)))).trans (HRX.out.2 0)
  have t1 : w1.frozen? ⟨w.heap.size + 1, 1, none⟩ = false := (World.frozen?_of_block (w := wx) (a := ⟨w.heap.size + 1, 1, none⟩) (hb1.block _ (show w.heap.size + 1 < wx.heap.size from World.block_lt_of_cell? wx ⟨w.heap.size + 1, 0, none⟩ (HRX.out.1 0 _ rfl)))).trans (HRX.out.2 1)
  have t2 : w1.frozen? ⟨w.heap.size + 1, 2, none⟩ = false := (World.frozen?_of_block (w := wx) (a := ⟨w.heap.size + 1, 2, none⟩) (hb1.block _ (show w.heap.size + 1 < wx.heap.size from World.block_lt_of_cell? wx ⟨w.heap.size + 1, 0, none⟩ (HRX.out.1 0 _ rfl)))).trans (HRX.out.2 2)
  have t3 : w1.frozen? ⟨w.heap.size + 1, 3, none⟩ = false := (World.frozen?_of_block (w := wx) (a := ⟨w.heap.size + 1, 3, none⟩) (hb1.block _ (show w.heap.size + 1 < wx.heap.size from World.block_lt_of_cell? wx ⟨w.heap.size + 1, 0, none⟩ (HRX.out.1 0 _ rfl)))).trans (HRX.out.2 3)
  have t4 : w1.frozen? ⟨w.heap.size + 1, 4, none⟩ = false := (World.frozen?_of_block (w := wx) (a := ⟨w.heap.size + 1, 4, none⟩) (hb1.block _ (show w.heap.size + 1 < wx.heap.size from World.block_lt_of_cell? wx ⟨w.heap.size + 1, 0, none⟩ (HRX.out.1 0 _ rfl)))).trans (HRX.out.2 4)
  have t5 : w1.frozen? ⟨w.heap.size + 1, 5, none⟩ = false := (World.frozen?_of_block (w := wx) (a := ⟨w.heap.size + 1, 5, none⟩) (hb1.block _ (show w.heap.size + 1 < wx.heap.size from World.block_lt_of_cell? wx ⟨w.heap.size + 1, 0, none⟩ (HRX.out.1 0 _ rfl)))).trans (HRX.out.2 5)
  simp only [List.getElem_toArray, List.getElem_cons_zero, List.getElem_cons_succ] at s0 s1 s2 s3 s4 s5
  have HZ1 := Lib.hid hb1.size
  clear hb1 hsl HCL
  go_wp2
  have key2 := set6 (w := w1.setCell ⟨q2, 5, none⟩ (.slice a' x.code.length c')) (g := w.heap.size + 1) (v0 := .string x.name) (v1 := .string x.desc) (v2 := .int .i64 x.flags) (v3 := .int .i64 x.locals) (v4 := .int .i64 x.stack) (v5 := .slice a' x.code.length c') ((setCell_off (.inl hne)).trans s0) ((setCell_off (.inl hne)).trans s1) ((setCell_off (.inl hne)).trans s2) ((setCell_off (.inl hne)).trans s3) ((setCell_off (.inl hne)).trans s4) ((setCell_off (.inl hne)).trans s5)
  refine bodyPost_ret (results_cells_tmp rfl _ _ (w.heap.size + 1) [.string x.name, .string x.desc, .int .i64 x.flags, .int .i64 x.locals, .int .i64 x.stack, .slice a' x.code.length c'] _ rfl (six key2.1 key2.2.1 key2.2.2.1 key2.2.2.2.1 key2.2.2.2.2.1 key2.2.2.2.2.2) Tryz.underlying45 rfl meth_info) rfl ⟨_, rfl, ?_, ?_⟩
  · refine ⟨_, rfl, HXF.out.1, HXF.out.2.1, HXF.out.2.2.1, HXF.out.2.2.2.1, HXF.out.2.2.2.2, (HSL.out.alike fun b hb => ?_).mono fun b hb => ⟨?_, ?_⟩⟩
    · have h1 := HNE.out
      have hb' : wx.heap.size ≤ b ∧ b < w1.heap.size := hb
      iterate 6 rw [Below.heap_setCell _ _ _ _ (show b ≠ w.heap.size + 1 by omega)]
      exact Below.heap_setCell _ _ _ _ (show b ≠ q2 by omega)
    · have h1 := HNE.out
      have hb' : wx.heap.size ≤ b ∧ b < w1.heap.size := hb
      omega
    · have hb' : wx.heap.size ≤ b ∧ b < w1.heap.size := hb
      simp; omega
  · have hq : w.heap.size ≤ w.heap.size + 1 := by omega
    exact ((((((HB1.out.setCell (show w.heap.size ≤ q2 by have := HNE.out.2.1; omega) _).setCell hq _).setCell hq _).setCell hq _).setCell hq _).setCell hq _).setCell hq _
end Go.Proofs.YtmenknflabohhaaGreatDoor.Hi
/- maxspec.Candidates. -/
set_option maxRecDepth 100000
set_option maxHeartbeats 1000000
set_option linter.unusedVariables false
set_option linter.unusedSimpArgs false
namespace Go.Proofs.YtmenknflabohhaaGreatDoor.Hi
open Go.RowKit Bs

theorem findE_cases (e : EntM) (n d : ByteArray) : (∃ k : Nat, k < e.c.meths.length ∧ findE e n d = ((k : Int), 0)) ∨ findE e n d = (0, 6) := by
  unfold findE Pr.findM
  cases h : e.c.meths.findIdx? (Pr.mEq n d) with
  | none => right; simp
  | some k =>
    left
    rw [List.findIdx?_eq_some_iff_getElem] at h
    refine ⟨k, h.1, ?_⟩
    show (if (k : Int) < 0 then _ else _) = _
    rw [if_neg (by omega)]

/-- Whatever Method answers: a method and an error. -/
theorem Method_any {S : Nat → Prop} {bw : Nat} {w : World} {m : List EntM} (h : HW S bw w m) (hS : ∀ k, S k → k < w.heap.size) {a : Int} {b : Nat} {e : EntM} (he : entAt m a = some e) :
    Calls Tryz.prog 12 #[.pointer (some ⟨bw, 0, none⟩), .agg #[.int .i64 a, .int .i64 b]] w fun r w' => ∃ (n d : ByteArray) (f l s : Int) (ad : Option Addr) (q c : Nat) (er : Int), r = .returned (.tuple #[.agg #[.string n, .string d, .int .i64 f, .int .i64 l, .int .i64 s, .slice ad q c], .int .i64 er]) ∧ (∀ hb : b < e.c.meths.length, f = e.c.meths[b].flags) ∧ Below w.heap.size w w' := by
  by_cases hb : b < e.c.meths.length
  · refine (Method_in h hS he hb).mono ?_
    rintro r w' ⟨cs', rfl, hm, hbl⟩
    obtain ⟨cv, rfl, _, _, _, _, _, hi⟩ := hm
    obtain ⟨ad, c, rfl, _⟩ := hi
    exact ⟨_, _, _, _, _, _, _, _, _, rfl, fun _ => rfl, hbl⟩
  · refine (Method_out h hS he (b := (b : Int)) (.inr (by omega))).mono ?_
    rintro r w' ⟨rfl, hbl⟩
    exact ⟨_, _, _, _, _, _, _, _, _, rfl, fun h => absurd h hb, hbl⟩

/-- An interface's candidate. -/
def candAt (m : List EntM) (n d : ByteArray) (i : Int) : Option (Int × Int) := match entAt m i with
  | none => none
  | some e => if (findE e n d).2 = 0 ∧ bits .and .i64 ((e.c.meths[(findE e n d).1.toNat]?.map (·.flags)).getD 0) 10 = 0 then some (i, (findE e n d).1) else none
/-- The candidates of a class. -/
def candM (m : List EntM) (c : Nat) (n d : ByteArray) : List (Int × Int) := (clo m c).filterMap (candAt m n d)

def IdIs (_ : World) (cs : List Value) (p : Int × Int) : Prop := cs = [.int .i64 p.1, .int .i64 p.2]
abbrev IdSl (S : Nat → Prop) := Sl S 2 16 IdIs
def idCells (p : Int × Int) : List Value := [.int .i64 p.1, .int .i64 p.2]
theorem info_id : (Tryz.prog.info? 28).map (fun i => (i.zero, i.size, i.bytes)) = some (some (.agg #[.int .i64 0, .int .i64 0]), 2, 16) := by kernel_rfl

end Go.Proofs.YtmenknflabohhaaGreatDoor.Hi
/- maxspec of a class without candidates. -/
set_option maxRecDepth 100000
set_option maxHeartbeats 1000000
set_option linter.unusedVariables false
set_option linter.unusedSimpArgs false
namespace Go.Proofs.YtmenknflabohhaaGreatDoor.Hi
open Go.RowKit Bs


theorem two {w : World} {g : Nat} {v0 v1 : Value} (h0 : w.cell? ⟨g, 0, none⟩ = some v0) (h1 : w.cell? ⟨g, 1, none⟩ = some v1) : ∀ j (h : j < [v0, v1].length), w.cell? ⟨g, j, none⟩ = some [v0, v1][j]
  | 0, _ => h0
  | 1, _ => h1
theorem set2 {w : World} {g : Nat} {v0 v1 u0 u1 : Value} (h0 : w.cell? ⟨g, 0, none⟩ = some u0) (h1 : w.cell? ⟨g, 1, none⟩ = some u1) :
    ((w.setCell ⟨g, 0, none⟩ v0).setCell ⟨g, 1, none⟩ v1).cell? ⟨g, 0, none⟩ = some v0 ∧ ((w.setCell ⟨g, 0, none⟩ v0).setCell ⟨g, 1, none⟩ v1).cell? ⟨g, 1, none⟩ = some v1 := by
  refine ⟨?_, ?_⟩
  · rw [setCell_off (by omega)]; exact setCell_same h0
  · refine setCell_same (u := u1) ?_; rw [setCell_off (by omega)]; exact h1
theorem id_info2 : (Tryz.prog.info? 28).map (·.size) = some 2 := by kernel_rfl


theorem Index_none (a : Option Addr) (k : Nat) (fv : Value) (w : World) :
    Calls Tryz.prog 50 #[.slice a 0 k, fv] w fun r w' => r = .returned (.int .i64 (-1)) ∧ w = w' := by
  go_enter Tryz.func50, Tryz.ntmps50
  go_wp2_with fail
  go_loopg [5, 8] 0 (fun gk _ u wr => u = .int .i64 0 ∧ Hid (w = wr))
  case atStart => exact ⟨rfl, Lib.hid rfl⟩
  case round =>
    obtain ⟨rfl, hw⟩ := hrel
    have hw' := hw.out
    subst hw'
    go_wp2
    go_ret
    exact ⟨rfl, rfl⟩
theorem Del_none (a : Option Addr) (k : Nat) (fv : Value) (w : World) :
    Calls Tryz.prog 29 #[.slice a 0 k, fv] w fun r w' => r = .returned (.slice a 0 k) ∧ w = w' := by
  go_enter Tryz.func29, Tryz.ntmps29
  go_wp2_with fail
  refine (Index_none _ _ _ _).mono ?_
  rintro e w' ⟨rfl, rfl⟩
  go_wp2
  go_ret
  exact ⟨rfl, rfl⟩

end Go.Proofs.YtmenknflabohhaaGreatDoor.Hi
/- maxspec's laws: what they begin with. -/
set_option maxRecDepth 100000
set_option maxHeartbeats 1000000
set_option linter.unusedVariables false
set_option linter.unusedSimpArgs false
namespace Go.Proofs.YtmenknflabohhaaGreatDoor.Hi
open Go.RowKit Bs

section
variable {m : List EntM} (hw : WFm m) (ho : OrdM m)
include hw ho
theorem clo_bare {a p : Nat} (h : a < m.length) (h0 : 0 < a) (hp : superM m a = ((p : Int), 0)) (hi : m[a].c.ifaces = []) : clo m a = clo m p := by
  obtain ⟨p', hp', e, r, hr⟩ := clo_pre hw ho h h0
  obtain rfl : p' = p := by rw [e] at hp; injection hp with hp _; omega
  have hnd : (clo m a).Nodup := by rw [clo_at h]; exact (hw.closed a h).1
  cases r with
  | nil => rw [hr]; simp
  | cons x r =>
    exfalso
    have hx : x ∈ clo m a := by rw [hr]; simp
    have := clo_why hw ho h h0 e hx
    rw [hi] at this
    unfold whyM at this
    have hx' : x ∈ clo m p' := by simpa using this
    rw [hr, List.nodup_append] at hnd
    exact hnd.2.2 x hx' x (by simp) rfl
theorem cand_pre {a : Nat} (h : a < m.length) (h0 : 0 < a) (n d : ByteArray) : ∃ p : Nat, p < m.length ∧ superM m a = ((p : Int), 0) ∧ (∃ r, candM m a n d = candM m p n d ++ r) ∧ (m[a].c.ifaces = [] → candM m a n d = candM m p n d) := by
  obtain ⟨p, hp, e, r, hr⟩ := clo_pre hw ho h h0
  refine ⟨p, hp, e, ⟨r.filterMap (candAt m n d), ?_⟩, fun hi => ?_⟩
  · unfold candM; rw [hr, List.filterMap_append]
  · unfold candM; rw [clo_bare hw ho h h0 e hi]
end
theorem cand_zero {m : List EntM} (ho : OrdM m) (n d : ByteArray) : candM m 0 n d = [] := by
  unfold candM; rw [clo_zero ho]; rfl

theorem built_new (w : World) : Calls Tryz.prog 19 #[] w fun r w' => r = .returned (.pointer (some ⟨w.heap.size + 1, 0, none⟩)) ∧ Built w.heap.size (w.heap.size + 1) w w' startM :=
  (New w).mono fun r w' ⟨h1, h2, h3⟩ => ⟨h1, h2, ordM_start, h3, Nat.le_refl _, h3.size⟩



theorem RID (a b c d : Int) (w : World) :
    Calls Tryz.prog 13 #[.agg #[.int .i64 a, .int .i64 b], .agg #[.int .i64 c, .int .i64 d]] w fun e w' => e = .returned (.bool (a == c && b == d)) ∧ Below w.heap.size w w' := by
  have hb : Below w.heap.size w ((w.alloc (.cells #[.int .i64 a, .int .i64 b] 28)).alloc (.cells #[.int .i64 c, .int .i64 d] 28)) := ((Below.refl _ _).alloc (Nat.le_refl _) _).alloc (by simp) _
  obtain ⟨A, hA⟩ : ∃ A, (a == c) = A := ⟨_, rfl⟩
  obtain ⟨B, hB⟩ : ∃ B, (b == d) = B := ⟨_, rfl⟩
  rw [hA, hB]
  go_enter Tryz.func13, Tryz.ntmps13
  cases A
  · go_wp2
    go_ret
    exact ⟨rfl, hb⟩
  · go_wp2
    go_ret
    exact ⟨rfl, hb⟩

theorem IdSl.elem {S : Nat → Prop} {w : World} {a : Option Addr} {c : Nat} {xs : List (Int × Int)} (h : IdSl S w (.slice a xs.length c) xs) {k : Nat} (hk : k < xs.length) : ∃ b o, a = some ⟨b, o, none⟩ ∧ w.cell? ⟨b, o + k * 2, none⟩ = some (.int .i64 xs[k].1) ∧ w.cell? ⟨b, o + k * 2 + 1, none⟩ = some (.int .i64 xs[k].2) := by
  obtain ⟨a', c', hf, h2, h3, h4⟩ := h
  injection hf with f1 f2 f3
  subst f1; subst f3
  rcases h4 with h4 | ⟨b, o, rfl, hS, h4⟩
  · rw [h4] at hk; simp at hk
  · obtain ⟨cs, g1, g2, rfl⟩ := h4 k hk
    exact ⟨b, o, rfl, g2 0 (by simp), g2 1 (by simp)⟩
theorem IdSl.alike {S : Nat → Prop} {w w' : World} {v : Value} {xs : List (Int × Int)} (h : IdSl S w v xs) (ha : Alike S w w') : IdSl S w' v xs :=
  Sl.alike h ha fun _ _ h => h
theorem IdSl.next {w w' : World} {v : Value} {xs : List (Int × Int)} (h : IdSl (fun b => b < w.heap.size) w v xs) (hb : Below w.heap.size w w') : IdSl (fun b => b < w'.heap.size) w' v xs :=
  (IdSl.alike h (Alike.of_below hb fun _ h => h)).mono (fun _ hk => Nat.lt_of_lt_of_le hk hb.size) fun _ _ h => h
theorem IdSl.take {S : Nat → Prop} {w : World} {a : Option Addr} {c : Nat} {xs ys r : List (Int × Int)} (h : IdSl S w (.slice a xs.length c) xs) (he : xs = ys ++ r) : IdSl S w (.slice a ys.length c) ys := by
  subst he
  obtain ⟨a', c', hf, h2, h3, h4⟩ := h
  injection hf with f1 f2 f3
  subst f1; subst f3
  simp only [List.length_append] at h2 h3
  refine ⟨a, c, rfl, by omega, by omega, ?_⟩
  rcases h4 with h4 | ⟨b, o, e, hS, h4⟩
  · exact .inl (List.append_eq_nil_iff.1 h4).1
  · refine .inr ⟨b, o, e, hS, fun i hi => ?_⟩
    obtain ⟨cs, g1, g2, g3⟩ := h4 i (by simp; omega)
    rw [List.getElem_append_left hi] at g3
    exact ⟨cs, g1, g2, g3⟩

theorem RIDs {S S' : Nat → Prop} {w : World} {a a' : Option Addr} {c c' : Nat} {xs : List (Int × Int)} (h : IdSl S w (.slice a xs.length c) xs) (h' : IdSl S' w (.slice a' xs.length c') xs) (hS : ∀ k, S k → k < w.heap.size) (hS' : ∀ k, S' k → k < w.heap.size) :
    Calls Tryz.prog 11 #[.slice a xs.length c, .slice a' xs.length c'] w fun e w' => e = .returned (.bool true) ∧ Below w.heap.size w w' := by
  have HX := Lib.hid h
  have HY := Lib.hid h'
  have HS := Lib.hid (And.intro hS hS')
  have hb : xs.length * 16 ≤ 140737488355328 := by obtain ⟨_, _, _, _, h, _⟩ := h; exact h
  clear h h' hS hS'
  go_enter Tryz.func11, Tryz.ntmps11
  go_wp2_with fail
  go_loopg [5] xs.length (fun gk u wr => ∃ k : Nat, Hid (k + gk = xs.length) ∧ u = .int .i64 k ∧ Hid (Below w.heap.size w wr))
  case atStart => exact ⟨0, Lib.hid (Nat.zero_add _), rfl, Lib.hid (Below.refl _ _)⟩
  case round =>
    obtain ⟨k, hk, rfl, hw⟩ := hrel
    by_cases hlt : k < xs.length
    · have hlt' : (k : Int) < (xs.length : Int) := by omega
      obtain ⟨b, o, rfl, g0, g1⟩ := IdSl.elem (HX.out.alike (Alike.of_below hw.out HS.out.1)) hlt
      obtain ⟨b', o', rfl, k0, k1⟩ := IdSl.elem (HY.out.alike (Alike.of_below hw.out HS.out.2)) hlt
      have HI := Lib.hid (RID xs[k].1 xs[k].2 xs[k].1 xs[k].2)
      rw [beq_self_eq_true, beq_self_eq_true] at HI
      generalize xs[k] = x at g0 g1 k0 k1 HI
      go_wp2_with fail
      go_still_tail 8, (by kernel_rfl)
      change wpList _ _ _ _ _ wr.drew
      go_wp2_with fail
      refine (HI.out _).mono ?_
      rintro e w1 ⟨rfl, hb1⟩
      have HB1 : Hid (Below w.heap.size w w1) := Lib.hid (hw.out.drew.trans (hb1.mono hw.out.size))
      clear hb1 g0 g1 k0 k1 HI
      go_wp2
      go_roundg (xs.length - (k + 1))
      case measure => have := hk.out; omega
      case rel => exact ⟨k + 1, Lib.hid (by omega), by go_num, HB1⟩
    · go_wp2
      go_ret
      exact ⟨rfl, hw.out⟩
end Go.Proofs.YtmenknflabohhaaGreatDoor.Hi
