/- A method's place and a method, of a world of classes. -/
import Derived.Test.YtipinmbpdgjalaaGreatDoorME
import Derived.Test.YtipinmbpdgjalaaGreatDoorMX
import Derived.BigRegion
set_option maxRecDepth 100000
set_option maxHeartbeats 1000000
set_option linter.unusedVariables false
set_option linter.unusedSimpArgs false
namespace Go.Proofs.YtipinmbpdgjalaaGreatDoor.Hi
open Go.RowKit Bs

/-- A method's place in a class, and the error. -/
def findE (e : EntM) (n d : ByteArray) : Int × Int := if Pr.findM e.c.meths n d < 0 then (0, 6) else (Pr.findM e.c.meths n d, 0)

theorem Find_in {S : Nat → Prop} {bw : Nat} {w : World} {m : List EntM} (h : HW S bw w m) (hS : ∀ k, S k → k < w.heap.size) {id : Int} {e : EntM} (he : entAt m id = some e) (n d : ByteArray) :
    Calls Tryz.prog 29 #[.pointer (some ⟨bw, 0, none⟩), .int .i64 id, .string n, .string d] w fun r w' => r = .returned (.tuple #[.int .i64 (findE e n d).1, .int .i64 (findE e n d).2]) ∧ Below w.heap.size w w' := by
  obtain ⟨be, ia, ic, ma, mc, ca, cc, h9, hc⟩ := at_in h he
  have k0 := h9.k0
  have k1 := h9.k1
  have k2 := h9.k2
  have k3 := h9.k3
  have k4 := h9.k4
  have k5 := h9.k5
  have HF := Lib.hid (Pr.Find S e.c.meths ma mc n d w (.string e.c.name) (.string e.c.super) (.slice ia e.c.ifaces.length ic) (.int .i64 e.c.flags) (.int .i64 e.c.loader) (ClsIs.shape h9.cls).2 hS)
  clear h9 h hS
  have HE : Hid (findE e n d = if Pr.findM e.c.meths n d < 0 then (0, 6) else (Pr.findM e.c.meths n d, 0)) := Lib.hid rfl
  generalize findE e n d = fe at HE
  generalize Pr.findM e.c.meths n d = fm at HE HF
  go_enter Tryz.func29, Tryz.ntmps29
  go_wp2_with fail
  refine hc.mono ?_
  rintro _ w' ⟨rfl, rfl⟩
  go_wp2_with fail
  refine HF.out.mono ?_
  rintro _ w1 ⟨rfl, hb⟩
  clear k0 k1 k2 k3 k4 k5 hc HF
  by_cases hn : fm < 0
  · have G : Hid (fe = (0, 6)) := Lib.hid (HE.out.trans (if_pos hn))
    have hn' : decide (fm < 0) = true := decide_eq_true hn
    clear hn
    go_wp2
    go_ret2
    exact ⟨by rw [G.out]; rfl, hb⟩
  · have G : Hid (fe = (fm, 0)) := Lib.hid (HE.out.trans (if_neg hn))
    have hn' : decide (fm < 0) = false := decide_eq_false hn
    clear hn
    go_wp2
    go_ret2
    exact ⟨by rw [G.out]; rfl, hb⟩

theorem MethSl.fits {S : Nat → Prop} {w : World} {v : Value} {xs : List MethM} (h : MethSl S w v xs) {k : Nat} (hk : k < xs.length) : xs[k].name.size ≤ maxLen ∧ xs[k].desc.size ≤ maxLen ∧ Fits xs[k].flags ∧ Fits xs[k].locals ∧ Fits xs[k].stack := by
  obtain ⟨a', c', hf, h2, h3, h4⟩ := h
  rcases h4 with h4 | ⟨b, o, rfl, hS, h4⟩
  · rw [h4] at hk; simp at hk
  · obtain ⟨cs, g1, g2, cv, rfl, q1, q2, q3, q4, q5, _⟩ := h4 k hk
    exact ⟨q1, q2, q3, q4, q5⟩

theorem Method_out {S : Nat → Prop} {bw : Nat} {w : World} {m : List EntM} (h : HW S bw w m) (hS : ∀ k, S k → k < w.heap.size) {a b : Int} {e : EntM} (he : entAt m a = some e) (hb : b < 0 ∨ (e.c.meths.length : Int) ≤ b) :
    Calls Tryz.prog 28 #[.pointer (some ⟨bw, 0, none⟩), .agg #[.int .i64 a, .int .i64 b]] w fun r w' => r = .returned (.tuple #[zeroMeth, .int .i64 3]) ∧ Below w.heap.size w w' := by
  obtain ⟨wa, hwa⟩ : ∃ wa, wa = (w.alloc (.cells #[.int .i64 a, .int .i64 b] 38)).alloc (.cells #[Value.string ⟨#[]⟩, .string ⟨#[]⟩, .int .i64 0, .int .i64 0, .int .i64 0, .slice none 0 0] 55) := ⟨_, rfl⟩
  have hba : Below w.heap.size w wa := by rw [hwa]; exact ((Below.refl _ _).alloc (Nat.le_refl _) _).alloc (by simp) _
  have hza : wa.heap.size = w.heap.size + 2 := by rw [hwa]; simp
  have i0 : wa.cell? ⟨w.heap.size, 0, none⟩ = some (.int .i64 a) := by rw [hwa]; exact alloc_old (World.cell?_alloc_new ..)
  have i1 : wa.cell? ⟨w.heap.size, 1, none⟩ = some (.int .i64 b) := by rw [hwa]; exact alloc_old (World.cell?_alloc_new ..)
  have r0 : ∀ j v, (#[Value.string ⟨#[]⟩, .string ⟨#[]⟩, .int .i64 0, .int .i64 0, .int .i64 0, .slice none 0 0])[j]? = some v → wa.cell? ⟨w.heap.size + 1, j, none⟩ = some v := fun j v hv => by
    rw [hwa]
    have := World.cell?_alloc_new (w.alloc (.cells #[.int .i64 a, .int .i64 b] 38)) #[Value.string ⟨#[]⟩, .string ⟨#[]⟩, .int .i64 0, .int .i64 0, .int .i64 0, .slice none 0 0] 55 j
    rw [World.size_alloc] at this
    exact this.trans hv
  have f0 : ∀ j, wa.frozen? ⟨w.heap.size + 1, j, none⟩ = false := fun j => by
    rw [hwa]
    have := frozen_new (w.alloc (.cells #[.int .i64 a, .int .i64 b] 38)) #[Value.string ⟨#[]⟩, .string ⟨#[]⟩, .int .i64 0, .int .i64 0, .int .i64 0, .slice none 0 0] 55 j
    rw [World.size_alloc] at this
    exact this
  have h' := h.alike hba.size (Alike.of_below hba hS)
  have hS' : ∀ k, S k → k < wa.heap.size := fun k hk => Nat.lt_of_lt_of_le (hS k hk) hba.size
  obtain ⟨be, ia, ic, ma, mc, ca, cc, h9, hc⟩ := at_in h' he
  have k5 := h9.k5
  have HR := Lib.hid (And.intro r0 f0)
  have HBA := Lib.hid hba
  have HZA := Lib.hid hza
  have HMS := Lib.hid (And.intro (ClsIs.shape h9.cls).2 hS')
  clear h9 h' hS' r0 f0 hba hza h hS
  obtain ⟨y1, hy1⟩ : ∃ y, decide (b < 0) = y := ⟨_, rfl⟩
  obtain ⟨y2, hy2⟩ : ∃ y, decide ((e.c.meths.length : Int) ≤ b) = y := ⟨_, rfl⟩
  have hy : (y1 || y2) = true := by rw [← hy1, ← hy2]; simpa using hb
  clear hb
  cases y1 <;> cases y2 <;> first | (exfalso; cases hy; done) | skip
  all_goals
    clear hy
    go_enter Tryz.func28, Tryz.ntmps28
    go_wp2_with fail
    rw [← hwa]
    clear hwa
    refine hc.mono ?_
    rintro _ w' ⟨rfl, rfl⟩
    have s0 := HR.out.1 0 _ rfl
    have s1 := HR.out.1 1 _ rfl
    have s2 := HR.out.1 2 _ rfl
    have s3 := HR.out.1 3 _ rfl
    have s4 := HR.out.1 4 _ rfl
    have s5 := HR.out.1 5 _ rfl
    have t0 := HR.out.2 0
    have t1 := HR.out.2 1
    have t2 := HR.out.2 2
    have t3 := HR.out.2 3
    have t4 := HR.out.2 4
    have t5 := HR.out.2 5
    simp only [List.getElem_toArray, List.getElem_cons_zero, List.getElem_cons_succ] at s0 s1 s2 s3 s4 s5
    go_wp2_with fail
    go_quiet (fail)
    go_wp2
    have key := set6 (w := wa.drewN nq) (v0 := .string ⟨#[]⟩) (v1 := .string ⟨#[]⟩) (v2 := .int .i64 0) (v3 := .int .i64 0) (v4 := .int .i64 0) (v5 := .slice none 0 0) s0 s1 s2 s3 s4 s5
    refine bodyPost_ret (results_cells_tmp rfl _ _ (w.heap.size + 1) [.string ⟨#[]⟩, .string ⟨#[]⟩, .int .i64 0, .int .i64 0, .int .i64 0, .slice none 0 0] _ rfl (six key.1 key.2.1 key.2.2.1 key.2.2.2.1 key.2.2.2.2.1 key.2.2.2.2.2) Tryz.underlying55 rfl meth_info) rfl ⟨rfl, ?_⟩
    have hq : w.heap.size ≤ w.heap.size + 1 := by omega
    exact ((((((below_drewN HBA.out _).setCell hq _).setCell hq _).setCell hq _).setCell hq _).setCell hq _).setCell hq _

theorem Method_in {S : Nat → Prop} {bw : Nat} {w : World} {m : List EntM} (h : HW S bw w m) (hS : ∀ k, S k → k < w.heap.size) {a : Int} {b : Nat} {e : EntM} (he : entAt m a = some e) (hb : b < e.c.meths.length) :
    Calls Tryz.prog 28 #[.pointer (some ⟨bw, 0, none⟩), .agg #[.int .i64 a, .int .i64 b]] w fun r w' => ∃ cs' : List Value, r = .returned (.tuple #[.agg cs'.toArray, .int .i64 0]) ∧ MethIs (fun b => w.heap.size ≤ b ∧ b < w'.heap.size) w' cs' e.c.meths[b] ∧ Below w.heap.size w w' := by
  obtain ⟨wa, hwa⟩ : ∃ wa, wa = (w.alloc (.cells #[.int .i64 a, .int .i64 (b : Int)] 38)).alloc (.cells #[Value.string ⟨#[]⟩, .string ⟨#[]⟩, .int .i64 0, .int .i64 0, .int .i64 0, .slice none 0 0] 55) := ⟨_, rfl⟩
  have hba : Below w.heap.size w wa := by rw [hwa]; exact ((Below.refl _ _).alloc (Nat.le_refl _) _).alloc (by simp) _
  have hza : wa.heap.size = w.heap.size + 2 := by rw [hwa]; simp
  have i0 : wa.cell? ⟨w.heap.size, 0, none⟩ = some (.int .i64 a) := by rw [hwa]; exact alloc_old (World.cell?_alloc_new ..)
  have i1 : wa.cell? ⟨w.heap.size, 1, none⟩ = some (.int .i64 (b : Int)) := by rw [hwa]; exact alloc_old (World.cell?_alloc_new ..)
  have r0 : ∀ j v, (#[Value.string ⟨#[]⟩, .string ⟨#[]⟩, .int .i64 0, .int .i64 0, .int .i64 0, .slice none 0 0])[j]? = some v → wa.cell? ⟨w.heap.size + 1, j, none⟩ = some v := fun j v hv => by
    rw [hwa]
    have := World.cell?_alloc_new (w.alloc (.cells #[.int .i64 a, .int .i64 (b : Int)] 38)) #[Value.string ⟨#[]⟩, .string ⟨#[]⟩, .int .i64 0, .int .i64 0, .int .i64 0, .slice none 0 0] 55 j
    rw [World.size_alloc] at this
    exact this.trans hv
  have f0 : ∀ j, wa.frozen? ⟨w.heap.size + 1, j, none⟩ = false := fun j => by
    rw [hwa]
    have := frozen_new (w.alloc (.cells #[.int .i64 a, .int .i64 (b : Int)] 38)) #[Value.string ⟨#[]⟩, .string ⟨#[]⟩, .int .i64 0, .int .i64 0, .int .i64 0, .slice none 0 0] 55 j
    rw [World.size_alloc] at this
    exact this
  have h' := h.alike hba.size (Alike.of_below hba hS)
  have hS' : ∀ k, S k → k < wa.heap.size := fun k hk => Nat.lt_of_lt_of_le (hS k hk) hba.size
  obtain ⟨be, ia, ic, ma, mc, ca, cc, h9, hc⟩ := at_in h' he
  have k5 := h9.k5
  have HR := Lib.hid (And.intro r0 f0)
  have HBA := Lib.hid hba
  have HZA := Lib.hid hza
  have HMS := Lib.hid (And.intro (ClsIs.shape h9.cls).2 hS')
  clear h9 h' hS' r0 f0 hba hza h hS
  have hb1 : decide ((b : Int) < 0) = false := decide_eq_false (by omega)
  have hb2 : decide ((e.c.meths.length : Int) ≤ (b : Int)) = false := decide_eq_false (by omega)
  have hb3 : (b : Int) < (e.c.meths.length : Int) := by omega
  have hb4 : decide (e.c.meths.length ≤ b) = false := decide_eq_false (by omega)
  obtain ⟨bb, oo, da, dc, rfl, g0, g1, g2, g3, g4, g5, gi⟩ := MethSl.elem HMS.out.1 hb
  have HGI := Lib.hid gi
  have HXF := Lib.hid (MethSl.fits HMS.out.1 hb)
  clear gi
  generalize e.c.meths[b] = x at g0 g1 g2 g3 g4 g5 HGI HXF
  go_enter Tryz.func28, Tryz.ntmps28
  go_wp2_with fail
  rw [← hwa]
  clear hwa
  refine hc.mono ?_
  rintro _ w' ⟨rfl, rfl⟩
  go_wp2_with fail
  go_quiet (fail)
  go_wp2_with fail
  have k5' : ((wa.drewN (nq + 1)).alloc (.cells #[Value.string ⟨#[]⟩, .string ⟨#[]⟩, .int .i64 0, .int .i64 0, .int .i64 0, .slice none 0 0] 55)).cell? ⟨be, 5, none⟩ = _ := alloc_old (w := wa.drewN (nq + 1)) k5
  have i1' : ((wa.drewN (nq + 1)).alloc (.cells #[Value.string ⟨#[]⟩, .string ⟨#[]⟩, .int .i64 0, .int .i64 0, .int .i64 0, .slice none 0 0] 55)).cell? ⟨w.heap.size, 1, none⟩ = _ := alloc_old (w := wa.drewN (nq + 1)) i1
  have g0' : ((wa.drewN (nq + 1)).alloc (.cells #[Value.string ⟨#[]⟩, .string ⟨#[]⟩, .int .i64 0, .int .i64 0, .int .i64 0, .slice none 0 0] 55)).cell? ⟨bb, oo + b * 6, none⟩ = _ := alloc_old (w := wa.drewN (nq + 1)) g0
  have g1' : ((wa.drewN (nq + 1)).alloc (.cells #[Value.string ⟨#[]⟩, .string ⟨#[]⟩, .int .i64 0, .int .i64 0, .int .i64 0, .slice none 0 0] 55)).cell? ⟨bb, oo + b * 6 + 1, none⟩ = _ := alloc_old (w := wa.drewN (nq + 1)) g1
  have g2' : ((wa.drewN (nq + 1)).alloc (.cells #[Value.string ⟨#[]⟩, .string ⟨#[]⟩, .int .i64 0, .int .i64 0, .int .i64 0, .slice none 0 0] 55)).cell? ⟨bb, oo + b * 6 + 2, none⟩ = _ := alloc_old (w := wa.drewN (nq + 1)) g2
  have g3' : ((wa.drewN (nq + 1)).alloc (.cells #[Value.string ⟨#[]⟩, .string ⟨#[]⟩, .int .i64 0, .int .i64 0, .int .i64 0, .slice none 0 0] 55)).cell? ⟨bb, oo + b * 6 + 3, none⟩ = _ := alloc_old (w := wa.drewN (nq + 1)) g3
  have g4' : ((wa.drewN (nq + 1)).alloc (.cells #[Value.string ⟨#[]⟩, .string ⟨#[]⟩, .int .i64 0, .int .i64 0, .int .i64 0, .slice none 0 0] 55)).cell? ⟨bb, oo + b * 6 + 4, none⟩ = _ := alloc_old (w := wa.drewN (nq + 1)) g4
  have g5' : ((wa.drewN (nq + 1)).alloc (.cells #[Value.string ⟨#[]⟩, .string ⟨#[]⟩, .int .i64 0, .int .i64 0, .int .i64 0, .slice none 0 0] 55)).cell? ⟨bb, oo + b * 6 + 5, none⟩ = _ := alloc_old (w := wa.drewN (nq + 1)) g5
  have n0 : ((wa.drewN (nq + 1)).alloc (.cells #[Value.string ⟨#[]⟩, .string ⟨#[]⟩, .int .i64 0, .int .i64 0, .int .i64 0, .slice none 0 0] 55)).cell? ⟨wa.heap.size, 0, none⟩ = some (.string ⟨#[]⟩) := World.cell?_alloc_new (wa.drewN (nq + 1)) #[Value.string ⟨#[]⟩, .string ⟨#[]⟩, .int .i64 0, .int .i64 0, .int .i64 0, .slice none 0 0] 55 0
  have m0 : ((wa.drewN (nq + 1)).alloc (.cells #[Value.string ⟨#[]⟩, .string ⟨#[]⟩, .int .i64 0, .int .i64 0, .int .i64 0, .slice none 0 0] 55)).frozen? ⟨wa.heap.size, 0, none⟩ = false := frozen_new (wa.drewN (nq + 1)) #[Value.string ⟨#[]⟩, .string ⟨#[]⟩, .int .i64 0, .int .i64 0, .int .i64 0, .slice none 0 0] 55 0
  have n1 : ((wa.drewN (nq + 1)).alloc (.cells #[Value.string ⟨#[]⟩, .string ⟨#[]⟩, .int .i64 0, .int .i64 0, .int .i64 0, .slice none 0 0] 55)).cell? ⟨wa.heap.size, 1, none⟩ = some (.string ⟨#[]⟩) := World.cell?_alloc_new (wa.drewN (nq + 1)) #[Value.string ⟨#[]⟩, .string ⟨#[]⟩, .int .i64 0, .int .i64 0, .int .i64 0, .slice none 0 0] 55 1
  have m1 : ((wa.drewN (nq + 1)).alloc (.cells #[Value.string ⟨#[]⟩, .string ⟨#[]⟩, .int .i64 0, .int .i64 0, .int .i64 0, .slice none 0 0] 55)).frozen? ⟨wa.heap.size, 1, none⟩ = false := frozen_new (wa.drewN (nq + 1)) #[Value.string ⟨#[]⟩, .string ⟨#[]⟩, .int .i64 0, .int .i64 0, .int .i64 0, .slice none 0 0] 55 1
  have n2 : ((wa.drewN (nq + 1)).alloc (.cells #[Value.string ⟨#[]⟩, .string ⟨#[]⟩, .int .i64 0, .int .i64 0, .int .i64 0, .slice none 0 0] 55)).cell? ⟨wa.heap.size, 2, none⟩ = some (.int .i64 0) := World.cell?_alloc_new (wa.drewN (nq + 1)) #[Value.string ⟨#[]⟩, .string ⟨#[]⟩, .int .i64 0, .int .i64 0, .int .i64 0, .slice none 0 0] 55 2
  have m2 : ((wa.drewN (nq + 1)).alloc (.cells #[Value.string ⟨#[]⟩, .string ⟨#[]⟩, .int .i64 0, .int .i64 0, .int .i64 0, .slice none 0 0] 55)).frozen? ⟨wa.heap.size, 2, none⟩ = false := frozen_new (wa.drewN (nq + 1)) #[Value.string ⟨#[]⟩, .string ⟨#[]⟩, .int .i64 0, .int .i64 0, .int .i64 0, .slice none 0 0] 55 2
  have n3 : ((wa.drewN (nq + 1)).alloc (.cells #[Value.string ⟨#[]⟩, .string ⟨#[]⟩, .int .i64 0, .int .i64 0, .int .i64 0, .slice none 0 0] 55)).cell? ⟨wa.heap.size, 3, none⟩ = some (.int .i64 0) := World.cell?_alloc_new (wa.drewN (nq + 1)) #[Value.string ⟨#[]⟩, .string ⟨#[]⟩, .int .i64 0, .int .i64 0, .int .i64 0, .slice none 0 0] 55 3
  have m3 : ((wa.drewN (nq + 1)).alloc (.cells #[Value.string ⟨#[]⟩, .string ⟨#[]⟩, .int .i64 0, .int .i64 0, .int .i64 0, .slice none 0 0] 55)).frozen? ⟨wa.heap.size, 3, none⟩ = false := frozen_new (wa.drewN (nq + 1)) #[Value.string ⟨#[]⟩, .string ⟨#[]⟩, .int .i64 0, .int .i64 0, .int .i64 0, .slice none 0 0] 55 3
  have n4 : ((wa.drewN (nq + 1)).alloc (.cells #[Value.string ⟨#[]⟩, .string ⟨#[]⟩, .int .i64 0, .int .i64 0, .int .i64 0, .slice none 0 0] 55)).cell? ⟨wa.heap.size, 4, none⟩ = some (.int .i64 0) := World.cell?_alloc_new (wa.drewN (nq + 1)) #[Value.string ⟨#[]⟩, .string ⟨#[]⟩, .int .i64 0, .int .i64 0, .int .i64 0, .slice none 0 0] 55 4
  have m4 : ((wa.drewN (nq + 1)).alloc (.cells #[Value.string ⟨#[]⟩, .string ⟨#[]⟩, .int .i64 0, .int .i64 0, .int .i64 0, .slice none 0 0] 55)).frozen? ⟨wa.heap.size, 4, none⟩ = false := frozen_new (wa.drewN (nq + 1)) #[Value.string ⟨#[]⟩, .string ⟨#[]⟩, .int .i64 0, .int .i64 0, .int .i64 0, .slice none 0 0] 55 4
  have n5 : ((wa.drewN (nq + 1)).alloc (.cells #[Value.string ⟨#[]⟩, .string ⟨#[]⟩, .int .i64 0, .int .i64 0, .int .i64 0, .slice none 0 0] 55)).cell? ⟨wa.heap.size, 5, none⟩ = some (.slice none 0 0) := World.cell?_alloc_new (wa.drewN (nq + 1)) #[Value.string ⟨#[]⟩, .string ⟨#[]⟩, .int .i64 0, .int .i64 0, .int .i64 0, .slice none 0 0] 55 5
  have m5 : ((wa.drewN (nq + 1)).alloc (.cells #[Value.string ⟨#[]⟩, .string ⟨#[]⟩, .int .i64 0, .int .i64 0, .int .i64 0, .slice none 0 0] 55)).frozen? ⟨wa.heap.size, 5, none⟩ = false := frozen_new (wa.drewN (nq + 1)) #[Value.string ⟨#[]⟩, .string ⟨#[]⟩, .int .i64 0, .int .i64 0, .int .i64 0, .slice none 0 0] 55 5
  go_region
  obtain ⟨wx, hwx⟩ : ∃ wx, wx = ((((((((wa.drewN (nq + 1)).alloc (.cells #[Value.string ⟨#[]⟩, .string ⟨#[]⟩, .int .i64 0, .int .i64 0, .int .i64 0, .slice none 0 0] 55)).setCell ⟨wa.heap.size, 0, none⟩ (.string x.name)).setCell ⟨wa.heap.size, 1, none⟩ (.string x.desc)).setCell ⟨wa.heap.size, 2, none⟩ (.int .i64 x.flags)).setCell ⟨wa.heap.size, 3, none⟩ (.int .i64 x.locals)).setCell ⟨wa.heap.size, 4, none⟩ (.int .i64 x.stack)).setCell ⟨wa.heap.size, 5, none⟩ (.slice da x.code.length dc)) := ⟨_, rfl⟩
  rw [← hwx]
  have key := set6 (w := ((wa.drewN (nq + 1)).alloc (.cells #[Value.string ⟨#[]⟩, .string ⟨#[]⟩, .int .i64 0, .int .i64 0, .int .i64 0, .slice none 0 0] 55))) (g := wa.heap.size) (v0 := .string x.name) (v1 := .string x.desc) (v2 := .int .i64 x.flags) (v3 := .int .i64 x.locals) (v4 := .int .i64 x.stack) (v5 := .slice da x.code.length dc) n0 n1 n2 n3 n4 n5
  rw [← hwx] at key
  have hqz := HZA.out
  have hbx : Below wa.heap.size wa wx := by
    rw [hwx]
    exact (((((((below_drewN (Below.refl _ wa) (nq + 1)).alloc (Nat.le_refl _) _).setCell (Nat.le_refl _) _).setCell (Nat.le_refl _) _).setCell (Nat.le_refl _) _).setCell (Nat.le_refl _) _).setCell (Nat.le_refl _) _).setCell (Nat.le_refl _) _
  have hfx : ∀ j, wx.frozen? ⟨wa.heap.size, j, none⟩ = false := fun j => by
    rw [hwx]
    iterate 6 rw [World.frozen?_setCell]
    exact frozen_new (wa.drewN (nq + 1)) #[Value.string ⟨#[]⟩, .string ⟨#[]⟩, .int .i64 0, .int .i64 0, .int .i64 0, .slice none 0 0] 55 j
  have hzx : wa.heap.size < wx.heap.size := World.block_lt_of_cell? _ _ key.1
  have HBX := Lib.hid hbx
  have HBW : Hid (Below w.heap.size w wx) := Lib.hid (HBA.out.trans (hbx.mono HBA.out.size))
  have HKEY := Lib.hid key
  have HFX := Lib.hid hfx
  have HRX : Hid ((∀ j v, (#[Value.string ⟨#[]⟩, .string ⟨#[]⟩, .int .i64 0, .int .i64 0, .int .i64 0, .slice none 0 0])[j]? = some v → wx.cell? ⟨w.heap.size + 1, j, none⟩ = some v) ∧ ∀ j, wx.frozen? ⟨w.heap.size + 1, j, none⟩ = false) := Lib.hid ⟨fun j v hv => below_cell' hbx (HR.out.1 j v hv), fun j => (World.frozen?_of_block (w := wa) (a := ⟨w.heap.size + 1, j, none⟩) (hbx.block _ (show w.heap.size + 1 < wa.heap.size by omega))).trans (HR.out.2 j)⟩
  have HCL := Lib.hid (clone_insts (HGI.out.alike (Alike.of_below hbx HMS.out.2)))
  have HNE : Hid (wa.heap.size ≠ w.heap.size + 1 ∧ w.heap.size + 2 ≤ wa.heap.size ∧ wa.heap.size < wx.heap.size) := Lib.hid ⟨by omega, by omega, hzx⟩
  obtain ⟨c0, c1, c2, c3, c4, c5⟩ := key
  clear n0 m0 g0 g0' n1 m1 g1 g1' n2 m2 g2 g2' n3 m3 g3 g3' n4 m4 g4 g4' n5 m5 g5 g5' k5 k5' i1 i1' i0 hwx hbx hfx HR HBA HZA HMS hc hb1 hb2 hb3 hb4 HBX HGI hqz hzx
  generalize wa.heap.size = q2 at HKEY HFX HNE c0 c1 c2 c3 c4 c5 ⊢
  go_wp2_with fail
  refine HCL.out.mono ?_
  rintro _ w1 ⟨a', c', rfl, hsl, hb1⟩
  have c0 := below_cell' hb1 c0
  have c1 := below_cell' hb1 c1
  have c2 := below_cell' hb1 c2
  have c3 := below_cell' hb1 c3
  have c4 := below_cell' hb1 c4
  have c5 := below_cell' hb1 c5
  have fz : w1.frozen? ⟨q2, 5, none⟩ = false := (World.frozen?_of_block (w := wx) (a := ⟨q2, 5, none⟩) (hb1.block _ HNE.out.2.2)).trans (HFX.out 5)
  have HB1 := Lib.hid (HBW.out.trans (hb1.mono HBW.out.size))
  have HSL := Lib.hid hsl
  have hne := HNE.out.1
  have s0 := below_cell' hb1 (HRX.out.1 0 _ rfl)
  have s1 := below_cell' hb1 (HRX.out.1 1 _ rfl)
  have s2 := below_cell' hb1 (HRX.out.1 2 _ rfl)
  have s3 := below_cell' hb1 (HRX.out.1 3 _ rfl)
  have s4 := below_cell' hb1 (HRX.out.1 4 _ rfl)
  have s5 := below_cell' hb1 (HRX.out.1 5 _ rfl)
  have t0 : w1.frozen? ⟨w.heap.size + 1, 0, none⟩ = false := (World.frozen?_of_block (w := wx) (a := ⟨w.heap.size + 1, 0, none⟩) (hb1.block _ (show w.heap.size + 1 < wx.heap.size from World.block_lt_of_cell? wx ⟨w.heap.size + 1, 0, none⟩ (HRX.out.1 0 _ rfl)))).trans (HRX.out.2 0)
  have t1 : w1.frozen? ⟨w.heap.size + 1, 1, none⟩ = false := (World.frozen?_of_block (w := wx) (a := ⟨w.heap.size + 1, 1, none⟩) (hb1.block _ (show w.heap.size + 1 < wx.heap.size from World.block_lt_of_cell? wx ⟨w.heap.size + 1, 0, none⟩ (HRX.out.1 0 _ rfl)))).trans (HRX.out.2 1)
  have t2 : w1.frozen? ⟨w.heap.size + 1, 2, none⟩ = false := (World.frozen?_of_block (w := wx) (a := ⟨w.heap.size + 1, 2, none⟩) (hb1.block _ (show w.heap.size + 1 < wx.heap.size from World.block_lt_of_cell? wx ⟨w.heap.size + 1, 0, none⟩ (HRX.out.1 0 _ rfl)))).trans (HRX.out.2 2)
  have t3 : w1.frozen? ⟨w.heap.size + 1, 3, none⟩ = false := (World.frozen?_of_block (w := wx) (a := ⟨w.heap.size + 1, 3, none⟩) (hb1.block _ (show w.heap.size + 1 < wx.heap.size from World.block_lt_of_cell? wx ⟨w.heap.size + 1, 0, none⟩ (HRX.out.1 0 _ rfl)))).trans (HRX.out.2 3)
  have t4 : w1.frozen? ⟨w.heap.size + 1, 4, none⟩ = false := (World.frozen?_of_block (w := wx) (a := ⟨w.heap.size + 1, 4, none⟩) (hb1.block _ (show w.heap.size + 1 < wx.heap.size from World.block_lt_of_cell? wx ⟨w.heap.size + 1, 0, none⟩ (HRX.out.1 0 _ rfl)))).trans (HRX.out.2 4)
  have t5 : w1.frozen? ⟨w.heap.size + 1, 5, none⟩ = false := (World.frozen?_of_block (w := wx) (a := ⟨w.heap.size + 1, 5, none⟩) (hb1.block _ (show w.heap.size + 1 < wx.heap.size from World.block_lt_of_cell? wx ⟨w.heap.size + 1, 0, none⟩ (HRX.out.1 0 _ rfl)))).trans (HRX.out.2 5)
  simp only [List.getElem_toArray, List.getElem_cons_zero, List.getElem_cons_succ] at s0 s1 s2 s3 s4 s5
  have HZ1 := Lib.hid hb1.size
  clear hb1 hsl HCL
  go_wp2
  have key2 := set6 (w := w1.setCell ⟨q2, 5, none⟩ (.slice a' x.code.length c')) (g := w.heap.size + 1) (v0 := .string x.name) (v1 := .string x.desc) (v2 := .int .i64 x.flags) (v3 := .int .i64 x.locals) (v4 := .int .i64 x.stack) (v5 := .slice a' x.code.length c') ((setCell_off (.inl hne)).trans s0) ((setCell_off (.inl hne)).trans s1) ((setCell_off (.inl hne)).trans s2) ((setCell_off (.inl hne)).trans s3) ((setCell_off (.inl hne)).trans s4) ((setCell_off (.inl hne)).trans s5)
  refine bodyPost_ret (results_cells_tmp rfl _ _ (w.heap.size + 1) [.string x.name, .string x.desc, .int .i64 x.flags, .int .i64 x.locals, .int .i64 x.stack, .slice a' x.code.length c'] _ rfl (six key2.1 key2.2.1 key2.2.2.1 key2.2.2.2.1 key2.2.2.2.2.1 key2.2.2.2.2.2) Tryz.underlying55 rfl meth_info) rfl ⟨_, rfl, ?_, ?_⟩
  · refine ⟨_, rfl, HXF.out.1, HXF.out.2.1, HXF.out.2.2.1, HXF.out.2.2.2.1, HXF.out.2.2.2.2, (HSL.out.alike fun b hb => ?_).mono fun b hb => ⟨?_, ?_⟩⟩
    · have h1 := HNE.out
      have hb' : wx.heap.size ≤ b ∧ b < w1.heap.size := hb
      iterate 6 rw [Below.heap_setCell _ _ _ _ (show b ≠ w.heap.size + 1 by omega)]
      exact Below.heap_setCell _ _ _ _ (show b ≠ q2 by omega)
    · have h1 := HNE.out
      have hb' : wx.heap.size ≤ b ∧ b < w1.heap.size := hb
      omega
    · have hb' : wx.heap.size ≤ b ∧ b < w1.heap.size := hb
      simp; omega
  · have hq : w.heap.size ≤ w.heap.size + 1 := by omega
    exact ((((((HB1.out.setCell (show w.heap.size ≤ q2 by have := HNE.out.2.1; omega) _).setCell hq _).setCell hq _).setCell hq _).setCell hq _).setCell hq _).setCell hq _
end Go.Proofs.YtipinmbpdgjalaaGreatDoor.Hi
/- maxspec.Candidates. -/
set_option maxRecDepth 100000
set_option maxHeartbeats 1000000
set_option linter.unusedVariables false
set_option linter.unusedSimpArgs false
namespace Go.Proofs.YtipinmbpdgjalaaGreatDoor.Hi
open Go.RowKit Bs

theorem findE_cases (e : EntM) (n d : ByteArray) : (∃ k : Nat, k < e.c.meths.length ∧ findE e n d = ((k : Int), 0)) ∨ findE e n d = (0, 6) := by
  unfold findE Pr.findM
  cases h : e.c.meths.findIdx? (Pr.mEq n d) with
  | none => right; simp
  | some k =>
    left
    rw [List.findIdx?_eq_some_iff_getElem] at h
    refine ⟨k, h.1, ?_⟩
    show (if (k : Int) < 0 then _ else _) = _
    rw [if_neg (by omega)]

/-- Whatever Method answers: a method and an error. -/
theorem Method_any {S : Nat → Prop} {bw : Nat} {w : World} {m : List EntM} (h : HW S bw w m) (hS : ∀ k, S k → k < w.heap.size) {a : Int} {b : Nat} {e : EntM} (he : entAt m a = some e) :
    Calls Tryz.prog 28 #[.pointer (some ⟨bw, 0, none⟩), .agg #[.int .i64 a, .int .i64 b]] w fun r w' => ∃ (n d : ByteArray) (f l s : Int) (ad : Option Addr) (q c : Nat) (er : Int), r = .returned (.tuple #[.agg #[.string n, .string d, .int .i64 f, .int .i64 l, .int .i64 s, .slice ad q c], .int .i64 er]) ∧ (∀ hb : b < e.c.meths.length, f = e.c.meths[b].flags) ∧ Below w.heap.size w w' := by
  by_cases hb : b < e.c.meths.length
  · refine (Method_in h hS he hb).mono ?_
    rintro r w' ⟨cs', rfl, hm, hbl⟩
    obtain ⟨cv, rfl, _, _, _, _, _, hi⟩ := hm
    obtain ⟨ad, c, rfl, _⟩ := hi
    exact ⟨_, _, _, _, _, _, _, _, _, rfl, fun _ => rfl, hbl⟩
  · refine (Method_out h hS he (b := (b : Int)) (.inr (by omega))).mono ?_
    rintro r w' ⟨rfl, hbl⟩
    exact ⟨_, _, _, _, _, _, _, _, _, rfl, fun h => absurd h hb, hbl⟩

/-- An interface's candidate. -/
def candAt (m : List EntM) (n d : ByteArray) (i : Int) : Option (Int × Int) := match entAt m i with
  | none => none
  | some e => if (findE e n d).2 = 0 ∧ bits .and .i64 ((e.c.meths[(findE e n d).1.toNat]?.map (·.flags)).getD 0) 10 = 0 then some (i, (findE e n d).1) else none
/-- The candidates of a class. -/
def candM (m : List EntM) (c : Nat) (n d : ByteArray) : List (Int × Int) := (clo m c).filterMap (candAt m n d)

def IdIs (_ : World) (cs : List Value) (p : Int × Int) : Prop := cs = [.int .i64 p.1, .int .i64 p.2]
abbrev IdSl (S : Nat → Prop) := Sl S 2 16 IdIs
def idCells (p : Int × Int) : List Value := [.int .i64 p.1, .int .i64 p.2]
theorem info_id : (Tryz.prog.info? 38).map (fun i => (i.zero, i.size, i.bytes)) = some (some (.agg #[.int .i64 0, .int .i64 0]), 2, 16) := by kernel_rfl

theorem Candidates {B bw : Nat} {w0 w : World} {m : List EntM} (h : Built B bw w0 w m) {c : Nat} (hc : c < m.length) (n d : ByteArray) :
    Calls Tryz.prog 95 #[.pointer (some ⟨bw, 0, none⟩), .int .i64 c, .string n, .string d] w fun r w' => ∃ ad k, r = .returned (.tuple #[.slice ad (candM m c n d).length k, .int .i64 0]) ∧ IdSl (fun b => b < w'.heap.size) w' (.slice ad (candM m c n d).length k) (candM m c n d) ∧ Below w.heap.size w w' := by
  have HB := Lib.hid h
  have HCC := Lib.hid (h.closure c hc)
  have HWF := Lib.hid h.wf
  have HORD := Lib.hid h.ord
  clear h
  go_enter Tryz.func95, Tryz.ntmps95
  go_wp2_with fail
  refine HCC.out.mono ?_
  rintro e w1 ⟨al, cl, rfl, hs, hb⟩
  have HB1 := Lib.hid (HB.out.next hb)
  have HS1 := Lib.hid hs
  have HL1 := Lib.hid hb
  clear hs hb HCC HB
  obtain ⟨i0, hi0, hiz0, hiz1, hiz2⟩ := info_parts info_id
  have HCL : Hid ((clo m c).length ≤ 300) := Lib.hid (by rw [clo_at hc]; exact (clo_fits HWF.out hc).2)
  have hcl300 := HCL.out
  go_wp2_with fail
  go_loopg [12, 33] (clo m c).length (fun gk u uu wr => ∃ (k : Nat) (ps : List (Int × Int)), Hid (k + gk = (clo m c).length ∧ ps = ((clo m c).take k).filterMap (candAt m n d)) ∧ uu = .int .i64 k ∧ Hid (wr.ownsRow w1.heap.size 38 2 u ps.length (ps.map idCells).flatten) ∧ Hid (Built B bw w0 wr m) ∧ Hid (Below w1.heap.size w1 wr))
  case atStart => exact ⟨0, [], Lib.hid ⟨Nat.zero_add _, by simp⟩, rfl, Lib.hid (World.ownsRow_nil _ _ _ _), HB1, Lib.hid (Below.refl _ _)⟩
  case round =>
    obtain ⟨k, ps, hk, rfl, hrow, HB, HL⟩ := hrel
    obtain ⟨ra, rc, rfl⟩ := own_slice hrow.out
    by_cases hlt : k < (clo m c).length
    · have hlt' : (k : Int) < ((clo m c).length : Int) := by omega
      obtain ⟨b, o, rfl, hel⟩ := (HS1.out.next HL.out).elem (by omega)
      obtain ⟨y, hy, hyc, _⟩ := clo_mem HWF.out HORD.out hc _ (List.getElem_mem hlt)
      have hyl : y < m.length := by omega
      have g := hel k (y : Int) (by rw [List.getElem?_eq_getElem hlt, hy])
      obtain ⟨K, ER, hf, hER⟩ : ∃ (K : Nat) (ER : Int), findE m[y] n d = ((K : Int), ER) ∧ (ER = 0 → K < m[y].c.meths.length) := by
        rcases findE_cases m[y] n d with ⟨K, h1, h2⟩ | h
        · exact ⟨K, 0, h2, fun _ => h1⟩
        · exact ⟨0, 6, h, fun h => by cases h⟩
      have HPS : Hid (((clo m c).take (k + 1)).filterMap (candAt m n d) = ps ++ (candAt m n d y).toList) := Lib.hid (by
        rw [List.take_succ_eq_append_getElem hlt, List.filterMap_append, ← hk.out.2, hy]
        congr 1)
      have HFI := Lib.hid (Find_in HB.out.hw HB.out.live (entAt_nat hyl) n d)
      rw [hf] at HFI
      have HCA : Hid (candAt m n d y = if ER = 0 ∧ bits .and .i64 ((m[y].c.meths[K]?.map (·.flags)).getD 0) 10 = 0 then some ((y : Int), (K : Int)) else none) := Lib.hid (by
        unfold candAt
        rw [entAt_nat hyl]
        simp only [hf]
        rfl)
      have HPL : Hid (ps.length ≤ 300) := Lib.hid (by
        rw [hk.out.2]
        have := List.length_filterMap_le (candAt m n d) ((clo m c).take k)
        have := HCL.out
        simp at *
        omega)
      clear hel hy hf
      go_wp2_with fail
      refine HFI.out.mono ?_
      rintro e w2 ⟨rfl, hb⟩
      have HB2 := Lib.hid (HB.out.next hb)
      have HL2 : Hid (Below w1.heap.size w1 w2) := Lib.hid (HL.out.trans (hb.mono HL.out.size))
      have hrow2 := Lib.hid (row_of_block hrow.out fun q hq => hb.block q (own_live hrow.out hq).2)
      clear hb hrow HB HL g HFI
      have HAL : Hid (Below w2.heap.size w2 (w2.alloc (.cells #[.int .i64 (y : Int), .int .i64 (K : Int)] 38))) := Lib.hid ((Below.refl _ _).alloc (Nat.le_refl _) _)
      have HID : Hid ((w2.alloc (.cells #[.int .i64 (y : Int), .int .i64 (K : Int)] 38)).cell? ⟨w2.heap.size, 0, none⟩ = some (.int .i64 (y : Int)) ∧ (w2.alloc (.cells #[.int .i64 (y : Int), .int .i64 (K : Int)] 38)).cell? ⟨w2.heap.size, 1, none⟩ = some (.int .i64 (K : Int))) := Lib.hid ⟨World.cell?_alloc_new .., World.cell?_alloc_new ..⟩
      have HB3 := Lib.hid (HB2.out.next HAL.out)
      have HL3 : Hid (Below w1.heap.size w1 (w2.alloc (.cells #[.int .i64 (y : Int), .int .i64 (K : Int)] 38))) := Lib.hid (HL2.out.alloc HL2.out.size _)
      have hrow3 := Lib.hid (hrow2.out.alloc (.cells #[.int .i64 (y : Int), .int .i64 (K : Int)] 38))
      have HME := Lib.hid (Method_any (b := K) HB3.out.hw HB3.out.live (entAt_nat hyl))
      clear HB2 HL2 hrow2 HAL
      go_wp2_with fail
      refine HME.out.mono ?_
      rintro e w4 ⟨nn, dd, ff, ll, ss, ad, q, cq, er, rfl, hff, hb⟩
      have g0 := below_cell' hb HID.out.1
      have g1 := below_cell' hb HID.out.2
      have HB4 := Lib.hid (HB3.out.next hb)
      have HL4 : Hid (Below w1.heap.size w1 w4) := Lib.hid (HL3.out.trans (hb.mono HL3.out.size))
      have hrow4 := Lib.hid (row_of_block hrow3.out fun q hq => hb.block q (own_live hrow3.out hq).2)
      have HFF := Lib.hid hff
      clear hb hff hrow3 HB3 HL3 HID HME
      generalize w2.heap.size = qi at g0 g1
      have HAL : Hid (Below w4.heap.size w4 (w4.alloc (.cells #[.string nn, .string dd, .int .i64 ff, .int .i64 ll, .int .i64 ss, .slice ad q cq] 55))) := Lib.hid ((Below.refl _ _).alloc (Nat.le_refl _) _)
      have HB5 := Lib.hid (HB4.out.next HAL.out)
      have HL5 : Hid (Below w1.heap.size w1 (w4.alloc (.cells #[.string nn, .string dd, .int .i64 ff, .int .i64 ll, .int .i64 ss, .slice ad q cq] 55))) := Lib.hid (HL4.out.alloc HL4.out.size _)
      have hrow5 := Lib.hid (hrow4.out.alloc (.cells #[.string nn, .string dd, .int .i64 ff, .int .i64 ll, .int .i64 ss, .slice ad q cq] 55))
      have a0 := alloc_old (x := .cells #[.string nn, .string dd, .int .i64 ff, .int .i64 ll, .int .i64 ss, .slice ad q cq] 55) g0
      have a1 := alloc_old (x := .cells #[.string nn, .string dd, .int .i64 ff, .int .i64 ll, .int .i64 ss, .slice ad q cq] 55) g1
      by_cases hE : ER = 0
      case neg =>
        have hE' : (ER == 0) = false := by simpa using hE
        have HN : Hid (((clo m c).take (k + 1)).filterMap (candAt m n d) = ps) := Lib.hid (by rw [HPS.out, HCA.out, if_neg (fun h => hE h.1)]; simp)
        clear hE
        go_wp2
        go_roundg ((clo m c).length - (k + 1))
        case measure => have := hk.out.1; omega
        case rel => exact ⟨k + 1, ps, Lib.hid ⟨by omega, HN.out.symm⟩, by go_num, hrow5, HB5, HL5⟩
      have hKl := hER hE
      have hfl : ((m[y].c.meths[K]?.map (·.flags)).getD 0) = ff := by
        rw [List.getElem?_eq_getElem hKl, HFF.out hKl]; rfl
      rw [hfl] at HCA
      subst hE
      clear hfl hER HFF
      by_cases hB : bits .and .i64 ff 10 = 0
      case neg =>
        have hB' : (bits .and .i64 ff 10 == 0) = false := by simpa using hB
        have HN : Hid (((clo m c).take (k + 1)).filterMap (candAt m n d) = ps) := Lib.hid (by rw [HPS.out, HCA.out, if_neg (fun h => hB h.2)]; simp)
        clear hB
        go_wp2
        go_roundg ((clo m c).length - (k + 1))
        case measure => have := hk.out.1; omega
        case rel => exact ⟨k + 1, ps, Lib.hid ⟨by omega, HN.out.symm⟩, by go_num, hrow5, HB5, HL5⟩
      have hB' : (bits .and .i64 ff 10 == 0) = true := by simpa using hB
      have HN : Hid (((clo m c).take (k + 1)).filterMap (candAt m n d) = ps ++ [((y : Int), (K : Int))]) := Lib.hid (by rw [HPS.out, HCA.out, if_pos ⟨rfl, hB⟩]; simp)
      clear hB
      have hz5 := HL5.out.size
      generalize hw5 : (w4.alloc (.cells #[.string nn, .string dd, .int .i64 ff, .int .i64 ll, .int .i64 ss, .slice ad q cq] 55)) = w5 at HB5 HL5 hrow5 HAL a0 a1 hz5
      have HNEW : Hid (∀ j u, ([.int .i64 (y : Int), .int .i64 (K : Int)] : List Value)[j]? = some u → (w5.alloc (.cells #[.int .i64 (y : Int), .int .i64 (K : Int)] 38)).cell? ((⟨w5.heap.size, 0, none⟩ : Addr).add j) = some u) := Lib.hid (by
        intro j u hu
        rw [show (⟨w5.heap.size, 0, none⟩ : Addr).add j = ⟨w5.heap.size, j, none⟩ by unfold Addr.add; split <;> simp_all]
        rw [World.cell?_alloc_new]
        rw [← Array.getElem?_toList]
        exact hu)
      subst hw5
      go_wp2_with (first | (at_builtin; refine wpList_append_own _ rfl _ _ 72 rfl w1.heap.size 38 i0 (.agg #[.int .i64 0, .int .i64 0]) 2 16 Tryz.underlying72 hi0 hiz0 hiz1 hiz2 rfl (by decide) (.slice ra ps.length rc) ps.length (ps.map idCells).flatten rfl (hrow5.out.alloc _) ⟨(w4.alloc (.cells #[.string nn, .string dd, .int .i64 ff, .int .i64 ll, .int .i64 ss, .slice ad q cq] 55)).heap.size, 0, none⟩ 1 1 [.int .i64 (y : Int), .int .i64 (K : Int)] (by simp [Act.eval, Act.put]) rfl HNEW.out (by intro u hu; simp at hu; rcases hu with rfl | rfl <;> rfl) (by have := HPL.out; unfold maxLen; omega) (by have := HPL.out; omega) (by simp at hz5 ⊢; omega) ?_; intro v1 w6 hown1 hgrow1 hnil1; obtain ⟨g1', cap1, rfl⟩ := own_form hown1))
      have HL6 : Hid (Below w1.heap.size w1 w6) := Lib.hid ((HL5.out.alloc HL5.out.size _).grown hgrow1 (by simp at hz5 ⊢; omega) (fun q hq => (own_live hrow5.out hq).1))
      have HB6 : Hid (Built B bw w0 w6 m) := Lib.hid (HB1.out.next HL6.out)
      have HR6 : Hid (w6.ownsRow w1.heap.size 38 2 (.slice (some ⟨g1', 0, none⟩) (ps.length + 1) cap1) (ps ++ [((y : Int), (K : Int))]).length ((ps ++ [((y : Int), (K : Int))]).map idCells).flatten) := Lib.hid (by simpa [idCells] using hown1)
      go_roundg ((clo m c).length - (k + 1))
      case measure => have := hk.out.1; omega
      case rel => exact ⟨k + 1, _, Lib.hid ⟨by omega, HN.out.symm⟩, by go_num, by simpa using HR6, HB6, HL6⟩
    · have hkn : k = (clo m c).length := by have := hk.out.1; omega
      have HPS : Hid (ps = candM m c n d) := Lib.hid (by rw [hk.out.2, hkn, List.take_length]; rfl)
      clear hkn
      go_wp2
      go_ret2
      have hp := HPS.out
      subst hp
      have hlen : (candM m c n d).length ≤ 300 := by
        have := List.length_filterMap_le (candAt m n d) (clo m c)
        have := HCL.out
        unfold candM
        omega
      refine ⟨ra, rc, rfl, Sl.of_own hrow.out (css := (candM m c n d).map idCells) (by simp) rfl (fun cs hcs => ?_) (fun i hi => by simp [idCells, IdIs]) (by omega) _ (fun b hb => (own_live hrow.out hb).2), HL1.out.trans (HL.out.mono HL1.out.size)⟩
      obtain ⟨p, _, rfl⟩ := List.mem_map.1 hcs
      rfl
end Go.Proofs.YtipinmbpdgjalaaGreatDoor.Hi
/- maxspec of a class without candidates. -/
set_option maxRecDepth 100000
set_option maxHeartbeats 1000000
set_option linter.unusedVariables false
set_option linter.unusedSimpArgs false
namespace Go.Proofs.YtipinmbpdgjalaaGreatDoor.Hi
open Go.RowKit Bs

theorem Cand_none {B bw : Nat} {w0 w : World} {m : List EntM} (h : Built B bw w0 w m) {c : Nat} (hc : c < m.length) (n d : ByteArray) (h0 : candM m c n d = []) :
    Calls Tryz.prog 95 #[.pointer (some ⟨bw, 0, none⟩), .int .i64 c, .string n, .string d] w fun r w' => ∃ ad k, r = .returned (.tuple #[.slice ad 0 k, .int .i64 0]) ∧ Below w.heap.size w w' := by
  refine (Candidates h hc n d).mono ?_
  rintro r w' ⟨ad, k, rfl, _, hb⟩
  exact ⟨ad, k, by rw [h0]; rfl, hb⟩

theorem two {w : World} {g : Nat} {v0 v1 : Value} (h0 : w.cell? ⟨g, 0, none⟩ = some v0) (h1 : w.cell? ⟨g, 1, none⟩ = some v1) : ∀ j (h : j < [v0, v1].length), w.cell? ⟨g, j, none⟩ = some [v0, v1][j]
  | 0, _ => h0
  | 1, _ => h1
theorem set2 {w : World} {g : Nat} {v0 v1 u0 u1 : Value} (h0 : w.cell? ⟨g, 0, none⟩ = some u0) (h1 : w.cell? ⟨g, 1, none⟩ = some u1) :
    ((w.setCell ⟨g, 0, none⟩ v0).setCell ⟨g, 1, none⟩ v1).cell? ⟨g, 0, none⟩ = some v0 ∧ ((w.setCell ⟨g, 0, none⟩ v0).setCell ⟨g, 1, none⟩ v1).cell? ⟨g, 1, none⟩ = some v1 := by
  refine ⟨?_, ?_⟩
  · rw [setCell_off (by omega)]; exact setCell_same h0
  · refine setCell_same (u := u1) ?_; rw [setCell_off (by omega)]; exact h1
theorem id_info2 : (Tryz.prog.info? 38).map (·.size) = some 2 := by kernel_rfl


theorem Index_none (a : Option Addr) (k : Nat) (fv : Value) (w : World) :
    Calls Tryz.prog 92 #[.slice a 0 k, fv] w fun r w' => r = .returned (.int .i64 (-1)) ∧ w = w' := by
  go_enter Tryz.func92, Tryz.ntmps92
  go_wp2_with fail
  go_loopg [5, 8] 0 (fun gk _ u wr => u = .int .i64 0 ∧ Hid (w = wr))
  case atStart => exact ⟨rfl, Lib.hid rfl⟩
  case round =>
    obtain ⟨rfl, hw⟩ := hrel
    have hw' := hw.out
    subst hw'
    go_wp2
    go_ret
    exact ⟨rfl, rfl⟩
theorem Del_none (a : Option Addr) (k : Nat) (fv : Value) (w : World) :
    Calls Tryz.prog 57 #[.slice a 0 k, fv] w fun r w' => r = .returned (.slice a 0 k) ∧ w = w' := by
  go_enter Tryz.func57, Tryz.ntmps57
  go_wp2_with fail
  refine (Index_none _ _ _ _).mono ?_
  rintro e w' ⟨rfl, rfl⟩
  go_wp2
  go_ret
  exact ⟨rfl, rfl⟩
theorem Max_none {B bw : Nat} {w0 w : World} {m : List EntM} (h : Built B bw w0 w m) {c : Nat} (hc : c < m.length) (n d : ByteArray) (h0 : candM m c n d = []) :
    Calls Tryz.prog 64 #[.pointer (some ⟨bw, 0, none⟩), .int .i64 c, .string n, .string d] w fun r w' => r = .returned (.tuple #[.slice none 0 0, .int .i64 0]) ∧ Below w.heap.size w w' := by
  have hba : Below w.heap.size w (w.alloc (.cells #[.pointer (some ⟨bw, 0, none⟩)] 28)) := (Below.refl _ _).alloc (Nat.le_refl _) _
  have HC := Lib.hid (Cand_none (h.next hba) hc n d h0)
  have HBA := Lib.hid hba
  clear h h0 hba
  go_enter Tryz.func64, Tryz.ntmps64
  go_wp2_with fail
  refine HC.out.mono ?_
  rintro _ w1 ⟨ad, k, rfl, hb⟩
  have HB := Lib.hid (HBA.out.trans (hb.mono HBA.out.size))
  clear hb HC HBA
  have HB2 : Hid (Below w.heap.size w (w1.alloc (.cells #[.slice ad 0 k] 72))) := Lib.hid (HB.out.alloc HB.out.size _)
  go_wp2_with fail
  go_loopg [13, 30] 0 (fun gk u uu wr => u = .slice none 0 0 ∧ uu = .int .i64 0 ∧ Hid (Below w.heap.size w wr))
  case atStart => exact ⟨rfl, rfl, HB2⟩
  case round =>
    obtain ⟨rfl, rfl, hw⟩ := hrel
    go_wp2
    go_ret2
    exact ⟨rfl, hw.out⟩

theorem One_none {B bw : Nat} {w0 w : World} {m : List EntM} (h : Built B bw w0 w m) {c : Nat} (hc : c < m.length) (n d : ByteArray) (h0 : candM m c n d = []) :
    Calls Tryz.prog 30 #[.pointer (some ⟨bw, 0, none⟩), .int .i64 c, .string n, .string d] w fun r w' => r = .returned (.tuple #[.agg #[.int .i64 0, .int .i64 0], .int .i64 24]) ∧ Below w.heap.size w w' := by
  have hba : Below w.heap.size w ((w.alloc (.cells #[.pointer (some ⟨bw, 0, none⟩)] 28)).alloc (.cells #[.int .i64 0, .int .i64 0] 38)) := ((Below.refl _ _).alloc (Nat.le_refl _) _).alloc (by simp) _
  have hz : ((w.alloc (.cells #[.pointer (some ⟨bw, 0, none⟩)] 28)).alloc (.cells #[.int .i64 0, .int .i64 0] 38)).heap.size = w.heap.size + 2 := by simp
  have hcell : ∀ j : Nat, ((w.alloc (.cells #[.pointer (some ⟨bw, 0, none⟩)] 28)).alloc (.cells #[.int .i64 0, .int .i64 0] 38)).cell? ⟨w.heap.size + 1, j, none⟩ = (#[Value.int .i64 0, .int .i64 0])[j]? := fun j => by
    have := World.cell?_alloc_new (w.alloc (.cells #[.pointer (some ⟨bw, 0, none⟩)] 28)) #[.int .i64 0, .int .i64 0] 38 j
    rw [World.size_alloc] at this
    exact this
  have hfz : ∀ j : Nat, ((w.alloc (.cells #[.pointer (some ⟨bw, 0, none⟩)] 28)).alloc (.cells #[.int .i64 0, .int .i64 0] 38)).frozen? ⟨w.heap.size + 1, j, none⟩ = false := fun j => by
    have := frozen_new (w.alloc (.cells #[.pointer (some ⟨bw, 0, none⟩)] 28)) #[.int .i64 0, .int .i64 0] 38 j
    rw [World.size_alloc] at this
    exact this
  have HC := Lib.hid (Max_none (h.next hba) hc n d h0)
  have HBA := Lib.hid hba
  have HCE := Lib.hid (And.intro hcell (And.intro hfz hz))
  clear h h0 hba hcell hfz hz
  go_enter Tryz.func30, Tryz.ntmps30
  go_wp2_with fail
  refine HC.out.mono ?_
  rintro _ w1 ⟨rfl, hb⟩
  have s0 : w1.cell? ⟨w.heap.size + 1, 0, none⟩ = some (.int .i64 0) := below_cell' hb (HCE.out.1 0)
  have s1 : w1.cell? ⟨w.heap.size + 1, 1, none⟩ = some (.int .i64 0) := below_cell' hb (HCE.out.1 1)
  have t : ∀ j, w1.frozen? ⟨w.heap.size + 1, j, none⟩ = false := fun j => (World.frozen?_of_block (a := ⟨w.heap.size + 1, j, none⟩) (hb.block _ (show w.heap.size + 1 < _ by rw [HCE.out.2.2]; omega))).trans (HCE.out.2.1 j)
  have t0 := t 0
  have t1 := t 1
  have HB := Lib.hid (HBA.out.trans (hb.mono HBA.out.size))
  clear t hb HC HBA HCE
  go_wp2_with fail
  refine (Del_none _ _ _ _).mono ?_
  rintro _ w' ⟨rfl, rfl⟩
  go_wp2
  have key := set2 (v0 := .int .i64 0) (v1 := .int .i64 0) s0 s1
  refine bodyPost_ret (results_cells_tmp rfl _ _ (w.heap.size + 1) [.int .i64 0, .int .i64 0] _ rfl (two key.1 key.2) Tryz.underlying38 rfl id_info2) rfl ⟨rfl, ?_⟩
  exact (HB.out.setCell (Nat.le_succ _) _).setCell (Nat.le_succ _) _
end Go.Proofs.YtipinmbpdgjalaaGreatDoor.Hi
/- maxspec's laws: what they begin with. -/
set_option maxRecDepth 100000
set_option maxHeartbeats 1000000
set_option linter.unusedVariables false
set_option linter.unusedSimpArgs false
namespace Go.Proofs.YtipinmbpdgjalaaGreatDoor.Hi
open Go.RowKit Bs

section
variable {m : List EntM} (hw : WFm m) (ho : OrdM m)
include hw ho
theorem clo_bare {a p : Nat} (h : a < m.length) (h0 : 0 < a) (hp : superM m a = ((p : Int), 0)) (hi : m[a].c.ifaces = []) : clo m a = clo m p := by
  obtain ⟨p', hp', e, r, hr⟩ := clo_pre hw ho h h0
  obtain rfl : p' = p := by rw [e] at hp; injection hp with hp _; omega
  have hnd : (clo m a).Nodup := by rw [clo_at h]; exact (hw.closed a h).1
  cases r with
  | nil => rw [hr]; simp
  | cons x r =>
    exfalso
    have hx : x ∈ clo m a := by rw [hr]; simp
    have := clo_why hw ho h h0 e hx
    rw [hi] at this
    unfold whyM at this
    have hx' : x ∈ clo m p' := by simpa using this
    rw [hr, List.nodup_append] at hnd
    exact hnd.2.2 x hx' x (by simp) rfl
theorem cand_pre {a : Nat} (h : a < m.length) (h0 : 0 < a) (n d : ByteArray) : ∃ p : Nat, p < m.length ∧ superM m a = ((p : Int), 0) ∧ (∃ r, candM m a n d = candM m p n d ++ r) ∧ (m[a].c.ifaces = [] → candM m a n d = candM m p n d) := by
  obtain ⟨p, hp, e, r, hr⟩ := clo_pre hw ho h h0
  refine ⟨p, hp, e, ⟨r.filterMap (candAt m n d), ?_⟩, fun hi => ?_⟩
  · unfold candM; rw [hr, List.filterMap_append]
  · unfold candM; rw [clo_bare hw ho h h0 e hi]
end
theorem cand_zero {m : List EntM} (ho : OrdM m) (n d : ByteArray) : candM m 0 n d = [] := by
  unfold candM; rw [clo_zero ho]; rfl

theorem built_new (w : World) : Calls Tryz.prog 40 #[] w fun r w' => r = .returned (.pointer (some ⟨w.heap.size + 1, 0, none⟩)) ∧ Built w.heap.size (w.heap.size + 1) w w' startM :=
  (New w).mono fun r w' ⟨h1, h2, h3⟩ => ⟨h1, h2, ordM_start, h3, Nat.le_refl _, h3.size⟩



theorem RID (a b c d : Int) (w : World) :
    Calls Tryz.prog 13 #[.agg #[.int .i64 a, .int .i64 b], .agg #[.int .i64 c, .int .i64 d]] w fun e w' => e = .returned (.bool (a == c && b == d)) ∧ Below w.heap.size w w' := by
  have hb : Below w.heap.size w ((w.alloc (.cells #[.int .i64 a, .int .i64 b] 38)).alloc (.cells #[.int .i64 c, .int .i64 d] 38)) := ((Below.refl _ _).alloc (Nat.le_refl _) _).alloc (by simp) _
  obtain ⟨A, hA⟩ : ∃ A, (a == c) = A := ⟨_, rfl⟩
  obtain ⟨B, hB⟩ : ∃ B, (b == d) = B := ⟨_, rfl⟩
  rw [hA, hB]
  go_enter Tryz.func13, Tryz.ntmps13
  cases A
  · go_wp2
    go_ret
    exact ⟨rfl, hb⟩
  · go_wp2
    go_ret
    exact ⟨rfl, hb⟩

theorem IdSl.elem {S : Nat → Prop} {w : World} {a : Option Addr} {c : Nat} {xs : List (Int × Int)} (h : IdSl S w (.slice a xs.length c) xs) {k : Nat} (hk : k < xs.length) : ∃ b o, a = some ⟨b, o, none⟩ ∧ w.cell? ⟨b, o + k * 2, none⟩ = some (.int .i64 xs[k].1) ∧ w.cell? ⟨b, o + k * 2 + 1, none⟩ = some (.int .i64 xs[k].2) := by
  obtain ⟨a', c', hf, h2, h3, h4⟩ := h
  injection hf with f1 f2 f3
  subst f1; subst f3
  rcases h4 with h4 | ⟨b, o, rfl, hS, h4⟩
  · rw [h4] at hk; simp at hk
  · obtain ⟨cs, g1, g2, rfl⟩ := h4 k hk
    exact ⟨b, o, rfl, g2 0 (by simp), g2 1 (by simp)⟩
theorem IdSl.alike {S : Nat → Prop} {w w' : World} {v : Value} {xs : List (Int × Int)} (h : IdSl S w v xs) (ha : Alike S w w') : IdSl S w' v xs :=
  Sl.alike h ha fun _ _ h => h
theorem IdSl.next {w w' : World} {v : Value} {xs : List (Int × Int)} (h : IdSl (fun b => b < w.heap.size) w v xs) (hb : Below w.heap.size w w') : IdSl (fun b => b < w'.heap.size) w' v xs :=
  (IdSl.alike h (Alike.of_below hb fun _ h => h)).mono (fun _ hk => Nat.lt_of_lt_of_le hk hb.size) fun _ _ h => h
theorem IdSl.take {S : Nat → Prop} {w : World} {a : Option Addr} {c : Nat} {xs ys r : List (Int × Int)} (h : IdSl S w (.slice a xs.length c) xs) (he : xs = ys ++ r) : IdSl S w (.slice a ys.length c) ys := by
  subst he
  obtain ⟨a', c', hf, h2, h3, h4⟩ := h
  injection hf with f1 f2 f3
  subst f1; subst f3
  simp only [List.length_append] at h2 h3
  refine ⟨a, c, rfl, by omega, by omega, ?_⟩
  rcases h4 with h4 | ⟨b, o, e, hS, h4⟩
  · exact .inl (List.append_eq_nil_iff.1 h4).1
  · refine .inr ⟨b, o, e, hS, fun i hi => ?_⟩
    obtain ⟨cs, g1, g2, g3⟩ := h4 i (by simp; omega)
    rw [List.getElem_append_left hi] at g3
    exact ⟨cs, g1, g2, g3⟩

theorem RIDs {S S' : Nat → Prop} {w : World} {a a' : Option Addr} {c c' : Nat} {xs : List (Int × Int)} (h : IdSl S w (.slice a xs.length c) xs) (h' : IdSl S' w (.slice a' xs.length c') xs) (hS : ∀ k, S k → k < w.heap.size) (hS' : ∀ k, S' k → k < w.heap.size) :
    Calls Tryz.prog 32 #[.slice a xs.length c, .slice a' xs.length c'] w fun e w' => e = .returned (.bool true) ∧ Below w.heap.size w w' := by
  have HX := Lib.hid h
  have HY := Lib.hid h'
  have HS := Lib.hid (And.intro hS hS')
  have hb : xs.length * 16 ≤ 140737488355328 := by obtain ⟨_, _, _, _, h, _⟩ := h; exact h
  clear h h' hS hS'
  go_enter Tryz.func32, Tryz.ntmps32
  go_wp2_with fail
  go_loopg [5] xs.length (fun gk u wr => ∃ k : Nat, Hid (k + gk = xs.length) ∧ u = .int .i64 k ∧ Hid (Below w.heap.size w wr))
  case atStart => exact ⟨0, Lib.hid (Nat.zero_add _), rfl, Lib.hid (Below.refl _ _)⟩
  case round =>
    obtain ⟨k, hk, rfl, hw⟩ := hrel
    by_cases hlt : k < xs.length
    · have hlt' : (k : Int) < (xs.length : Int) := by omega
      obtain ⟨b, o, rfl, g0, g1⟩ := IdSl.elem (HX.out.alike (Alike.of_below hw.out HS.out.1)) hlt
      obtain ⟨b', o', rfl, k0, k1⟩ := IdSl.elem (HY.out.alike (Alike.of_below hw.out HS.out.2)) hlt
      have HI := Lib.hid (RID xs[k].1 xs[k].2 xs[k].1 xs[k].2)
      rw [beq_self_eq_true, beq_self_eq_true] at HI
      generalize xs[k] = x at g0 g1 k0 k1 HI
      go_wp2_with fail
      go_still_tail 8, (by kernel_rfl)
      change wpList _ _ _ _ _ wr.drew
      go_wp2_with fail
      refine (HI.out _).mono ?_
      rintro e w1 ⟨rfl, hb1⟩
      have HB1 : Hid (Below w.heap.size w w1) := Lib.hid (hw.out.drew.trans (hb1.mono hw.out.size))
      clear hb1 g0 g1 k0 k1 HI
      go_wp2
      go_roundg (xs.length - (k + 1))
      case measure => have := hk.out; omega
      case rel => exact ⟨k + 1, Lib.hid (by omega), by go_num, HB1⟩
    · go_wp2
      go_ret
      exact ⟨rfl, hw.out⟩
end Go.Proofs.YtipinmbpdgjalaaGreatDoor.Hi
