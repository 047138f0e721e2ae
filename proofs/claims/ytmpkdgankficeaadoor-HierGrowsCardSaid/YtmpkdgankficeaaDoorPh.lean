/- Instructions: what the operand has. -/
import Derived.Test.YtmpkdgankficeaaDoorPg
import Derived.Test.YtmpkdgankficeaaDoorLh
set_option maxRecDepth 100000
set_option maxHeartbeats 2000000
set_option linter.unusedVariables false
set_option linter.unusedSimpArgs false
namespace Go.Proofs.YtmpkdgankficeaaDoor.Pr
open Go.RowKit Bs

/-- Is what the operand has fine? -/
def opndB (k n : Int) (ty cls nm ds : List UInt8) : Bool :=
  if k = 0 then true else if k = 1 then decide (-2147483648 ≤ n) && decide (n ≤ 2147483647) else if k = 2 then decide (0 ≤ n) && decide (n ≤ 39) else if k = 3 then decide (0 ≤ n) && decide (n ≤ 199)
  else if k = 4 then Lf.validB ty else if k = 5 then decide ((refTyM ty).err = 0) else if k = 6 then decide ((parseM ty).err = 0) && decide ((parseM ty).dims < 255)
  else if k = 7 then decide ((refTyM ty).err = 0) && (decide (1 ≤ n) && decide (n ≤ (refTyM ty).dims)) else if k = 8 then refB cls nm ds else false

theorem Valid_any (q : List UInt8) (w : World) (hq : q.length ≤ maxLen) (he : Lf.Env w) : Calls Tryd.prog 63 #[.string (ba q)] w fun e w' => e = .returned (.bool (Lf.validB q)) ∧ Below w.heap.size w w' := by
  have := Lf.Valid (ba q) w (by rw [ba_size]; exact hq) he
  rw [ba_list] at this
  exact this

theorem operand (op n : Int) (ifc : Bool) (ty cls nm ds : List UInt8) (w : World) (h1 : ty.length ≤ maxLen) (h2 : cls.length ≤ maxLen) (h3 : nm.length ≤ maxLen) (h4 : ds.length ≤ maxLen) (he : Lf.Env w) :
    Calls Tryd.prog 95 #[.agg #[.int .i64 op, .int .i64 n, .string (ba ty), .bool ifc, .string (ba cls), .string (ba nm), .string (ba ds)]] w fun e w' => e = .returned (.bool (opndB (Lf.operandOf op) n ty cls nm ds)) ∧ Below w.heap.size w w' := by
  have HE := Lib.hid he
  have H1 := Lib.hid h1
  have H2 := Lib.hid h2
  have H3 := Lib.hid h3
  have H4 := Lib.hid h4
  have HO := Lib.hid (fun w' => Lf.Operand op w')
  clear he h1 h2 h3 h4
  generalize Lf.operandOf op = k at HO ⊢
  obtain ⟨R, hR⟩ : ∃ R, opndB k n ty cls nm ds = R := ⟨_, rfl⟩
  rw [hR]
  have HR := Lib.hid hR
  clear hR
  go_enter Tryd.func95, Tryd.ntmps95
  go_wp2_with fail
  refine (HO.out _).mono ?_
  rintro e w1 ⟨rfl, hb1⟩
  have ce : ∀ j : Nat, (w.alloc (.cells #[.int .i64 op, .int .i64 n, .string (ba ty), .bool ifc, .string (ba cls), .string (ba nm), .string (ba ds)] 90)).cell? ⟨w.heap.size, j, none⟩ = (#[Value.int .i64 op, .int .i64 n, .string (ba ty), .bool ifc, .string (ba cls), .string (ba nm), .string (ba ds)])[j]? := fun j => World.cell?_alloc_new ..
  have c1 : w1.cell? ⟨w.heap.size, 1, none⟩ = some (.int .i64 n) := below_cell' hb1 (ce 1)
  have c2 : w1.cell? ⟨w.heap.size, 2, none⟩ = some (.string (ba ty)) := below_cell' hb1 (ce 2)
  have c3 : w1.cell? ⟨w.heap.size, 3, none⟩ = some (.bool ifc) := below_cell' hb1 (ce 3)
  have c4 : w1.cell? ⟨w.heap.size, 4, none⟩ = some (.string (ba cls)) := below_cell' hb1 (ce 4)
  have c5 : w1.cell? ⟨w.heap.size, 5, none⟩ = some (.string (ba nm)) := below_cell' hb1 (ce 5)
  have c6 : w1.cell? ⟨w.heap.size, 6, none⟩ = some (.string (ba ds)) := below_cell' hb1 (ce 6)
  have HB1 : Hid (Below w.heap.size w w1) := Lib.hid (((Below.refl _ _).alloc (Nat.le_refl _) _).trans (hb1.mono (by simp)))
  have HE1 := Lib.hid (HE.out.below HB1.out)
  clear hb1 ce
  have hk : k = 0 ∨ k = 1 ∨ k = 2 ∨ k = 3 ∨ k = 4 ∨ k = 5 ∨ k = 6 ∨ k = 7 ∨ k = 8 ∨ (k ≠ 0 ∧ k ≠ 1 ∧ k ≠ 2 ∧ k ≠ 3 ∧ k ≠ 4 ∧ k ≠ 5 ∧ k ≠ 6 ∧ k ≠ 7 ∧ k ≠ 8) := by omega
  rcases hk with rfl | rfl | rfl | rfl | rfl | rfl | rfl | rfl | rfl | ⟨n0, n1, n2, n3, n4, n5, n6, n7, n8⟩
  · go_wp2
    go_ret
    exact ⟨by rw [← HR.out]; rfl, HB1.out⟩
  · go_wp2_with fail
    refine (Lf.within _ _ _ _).mono ?_
    rintro e _ ⟨rfl, rfl⟩
    go_wp2
    go_ret
    exact ⟨by rw [← HR.out]; rfl, HB1.out⟩
  · go_wp2_with fail
    refine (Lf.within _ _ _ _).mono ?_
    rintro e _ ⟨rfl, rfl⟩
    go_wp2
    go_ret
    exact ⟨by rw [← HR.out]; rfl, HB1.out⟩
  · go_wp2_with fail
    refine (Lf.within _ _ _ _).mono ?_
    rintro e _ ⟨rfl, rfl⟩
    go_wp2
    go_ret
    exact ⟨by rw [← HR.out]; rfl, HB1.out⟩
  · go_wp2_with fail
    refine (Valid_any ty _ H1.out HE1.out).mono ?_
    rintro e w2 ⟨rfl, hb⟩
    replace HB1 := Lib.hid (HB1.out.trans (hb.mono HB1.out.size))
    clear hb
    go_wp2
    go_ret
    exact ⟨by rw [← HR.out]; rfl, HB1.out⟩
  · have G : Hid (R = decide ((refTyM ty).err = 0)) := Lib.hid HR.out.symm
    have HP := Lib.hid (ParseRef ty _ H1.out HE1.out)
    generalize refTyM ty = p at G HP
    obtain ⟨pd, pn, pe⟩ := p
    go_wp2_with fail
    refine HP.out.mono ?_
    rintro e w2 ⟨rfl, hb⟩
    replace HB1 := Lib.hid (HB1.out.trans (hb.mono HB1.out.size))
    clear hb
    go_wp2
    go_ret
    exact ⟨by rw [G.out]; exact Lf.ret_bool rfl, HB1.out.alloc HB1.out.size _⟩
  · have G : Hid (R = (decide ((parseM ty).err = 0) && decide ((parseM ty).dims < 255))) := Lib.hid HR.out.symm
    have HP := Lib.hid (Parse ty _ H1.out HE1.out)
    generalize parseM ty = p at G HP
    obtain ⟨pd, pn, pe⟩ := p
    by_cases hp : pe = 0
    · subst hp
      go_wp2_with fail
      refine HP.out.mono ?_
      rintro e w2 ⟨rfl, hb⟩
      replace HB1 := Lib.hid (HB1.out.trans (hb.mono HB1.out.size))
      clear hb
      go_wp2
      go_ret
      exact ⟨by rw [G.out]; rfl, HB1.out.alloc HB1.out.size _⟩
    · have e1 : (pe == 0) = false := by simpa using hp
      have G' : Hid (R = false) := Lib.hid (by rw [G.out]; simp [hp])
      go_wp2_with fail
      refine HP.out.mono ?_
      rintro e w2 ⟨rfl, hb⟩
      replace HB1 := Lib.hid (HB1.out.trans (hb.mono HB1.out.size))
      clear hb
      go_wp2
      go_ret
      exact ⟨by rw [G'.out]; rfl, HB1.out.alloc HB1.out.size _⟩
  · have G : Hid (R = (decide ((refTyM ty).err = 0) && (decide (1 ≤ n) && decide (n ≤ (refTyM ty).dims)))) := Lib.hid HR.out.symm
    have HP := Lib.hid (ParseRef ty _ H1.out HE1.out)
    generalize refTyM ty = p at G HP
    obtain ⟨pd, pn, pe⟩ := p
    have hz1 := World.block_lt_of_cell? _ _ c1
    by_cases hp : pe = 0
    · subst hp
      go_wp2_with fail
      refine HP.out.mono ?_
      rintro e w2 ⟨rfl, hb⟩
      have c1' := below_cell' hb c1
      have hz2 := World.block_lt_of_cell? _ _ c1'
      replace HB1 := Lib.hid (HB1.out.trans (hb.mono HB1.out.size))
      clear hb
      go_wp2_with fail
      refine (Lf.within _ _ _ _).mono ?_
      rintro e _ ⟨rfl, rfl⟩
      go_wp2
      go_ret
      exact ⟨by rw [G.out]; rfl, HB1.out.alloc HB1.out.size _⟩
    · have e1 : (pe == 0) = false := by simpa using hp
      have G' : Hid (R = false) := Lib.hid (by rw [G.out]; simp [hp])
      go_wp2_with fail
      refine HP.out.mono ?_
      rintro e w2 ⟨rfl, hb⟩
      replace HB1 := Lib.hid (HB1.out.trans (hb.mono HB1.out.size))
      clear hb
      go_wp2
      go_ret
      exact ⟨by rw [G'.out]; rfl, HB1.out.alloc HB1.out.size _⟩
  · have G : Hid (R = refB cls nm ds) := Lib.hid HR.out.symm
    have HP := Lib.hid (RefCheck ifc cls nm ds _ H2.out H3.out H4.out HE1.out)
    generalize refB cls nm ds = p at G HP
    cases p
    all_goals
      go_wp2_with fail
      refine HP.out.mono ?_
      rintro e w2 ⟨rfl, hb⟩
      replace HB1 := Lib.hid (HB1.out.trans (hb.mono HB1.out.size))
      clear hb
      unfold formE
      go_wp2
      go_ret
      exact ⟨by rw [G.out]; rfl, HB1.out⟩
  · have G : Hid (R = false) := Lib.hid (by rw [← HR.out]; unfold opndB; simp [n0, n1, n2, n3, n4, n5, n6, n7, n8])
    go_wp2
    go_ret
    exact ⟨by rw [G.out]; rfl, HB1.out⟩
end Go.Proofs.YtmpkdgankficeaaDoor.Pr
