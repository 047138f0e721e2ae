/- Instructions: are they sound? -/
import Derived.Test.YtipinmbpdgjalaaGreatDoorMQ
set_option maxRecDepth 100000
set_option maxHeartbeats 8000000
set_option linter.unusedVariables false
set_option linter.unusedSimpArgs false
namespace Go.Proofs.YtipinmbpdgjalaaGreatDoor.Pr
open Go.RowKit Bs

def refZ (ifc : Bool) (cls nm ds : List UInt8) : Bool := !ifc && cls.isEmpty && nm.isEmpty && ds.isEmpty
/-- Has the instruction nothing but what its operand has? -/
def bareB (k n : Int) (ty : List UInt8) (ifc : Bool) (cls nm ds : List UInt8) : Bool :=
  if k = 1 ∨ k = 2 ∨ k = 3 then ty.isEmpty && refZ ifc cls nm ds else if k = 4 ∨ k = 5 ∨ k = 6 then decide (n = 0) && refZ ifc cls nm ds else if k = 7 then refZ ifc cls nm ds
  else if k = 8 then decide (n = 0) && ty.isEmpty else decide (n = 0) && ty.isEmpty && refZ ifc cls nm ds
def instB (op n : Int) (ty : List UInt8) (ifc : Bool) (cls nm ds : List UInt8) : Bool := bareB (Lf.operandOf op) n ty ifc cls nm ds && opndB (Lf.operandOf op) n ty cls nm ds

theorem ba_no {l : List UInt8} (h : ¬(ba l).toList = []) : l.isEmpty = false := by
  rw [ba_toList] at h
  cases l with
  | nil => exact absurd rfl h
  | cons x r => rfl
theorem ba_yes {l : List UInt8} (h : (ba l).toList = []) : l.isEmpty = true := by
  rw [ba_toList] at h
  rw [h]; rfl

theorem Check (op n : Int) (ifc : Bool) (ty cls nm ds : List UInt8) (w : World) (h1 : ty.length ≤ maxLen) (h2 : cls.length ≤ maxLen) (h3 : nm.length ≤ maxLen) (h4 : ds.length ≤ maxLen) (he : Lf.Env w) :
    Calls Tryz.prog 120 #[.agg #[.int .i64 op, .int .i64 n, .string (ba ty), .bool ifc, .string (ba cls), .string (ba nm), .string (ba ds)]] w fun e w' => e = .returned (.int .i64 (formE (instB op n ty ifc cls nm ds))) ∧ Below w.heap.size w w' := by
  have HE := Lib.hid he
  have HO := Lib.hid (fun w' => Lf.Operand op w')
  have HOP := Lib.hid (fun w' he' => operand op n ifc ty cls nm ds w' h1 h2 h3 h4 he')
  have HR0 : Hid (instB op n ty ifc cls nm ds = (bareB (Lf.operandOf op) n ty ifc cls nm ds && opndB (Lf.operandOf op) n ty cls nm ds)) := Lib.hid rfl
  clear he h1 h2 h3 h4
  generalize instB op n ty ifc cls nm ds = R at HR0 ⊢
  generalize Lf.operandOf op = k at HO HOP HR0
  obtain ⟨ok, hok⟩ : ∃ ok, opndB k n ty cls nm ds = ok := ⟨_, rfl⟩
  rw [hok] at HOP HR0
  clear hok
  go_enter Tryz.func120, Tryz.ntmps120
  go_wp2_with fail
  refine (HO.out _).mono ?_
  rintro e w1 ⟨rfl, hb1⟩
  have hB := Hi.allocs_below [.cells #[.int .i64 op, .int .i64 n, .string (ba ty), .bool ifc, .string (ba cls), .string (ba nm), .string (ba ds)] 120, .cells #[.int .i64 op, .int .i64 0, .string ⟨#[]⟩, .bool false, .string ⟨#[]⟩, .string ⟨#[]⟩, .string ⟨#[]⟩] 120] w
  have hA0 := Hi.allocs_at [.cells #[.int .i64 op, .int .i64 n, .string (ba ty), .bool ifc, .string (ba cls), .string (ba nm), .string (ba ds)] 120, .cells #[.int .i64 op, .int .i64 0, .string ⟨#[]⟩, .bool false, .string ⟨#[]⟩, .string ⟨#[]⟩, .string ⟨#[]⟩] 120] w 0 (by simp)
  have hA1 := Hi.allocs_at [.cells #[.int .i64 op, .int .i64 n, .string (ba ty), .bool ifc, .string (ba cls), .string (ba nm), .string (ba ds)] 120, .cells #[.int .i64 op, .int .i64 0, .string ⟨#[]⟩, .bool false, .string ⟨#[]⟩, .string ⟨#[]⟩, .string ⟨#[]⟩] 120] w 1 (by simp)
  have ce : w1.heap[w.heap.size]? = some (.cells #[.int .i64 op, .int .i64 n, .string (ba ty), .bool ifc, .string (ba cls), .string (ba nm), .string (ba ds)] 120) := (hb1.block w.heap.size (by simp; omega)).trans hA0
  have de : w1.heap[w.heap.size + 1]? = some (.cells #[.int .i64 op, .int .i64 0, .string ⟨#[]⟩, .bool false, .string ⟨#[]⟩, .string ⟨#[]⟩, .string ⟨#[]⟩] 120) := (hb1.block (w.heap.size + 1) (by simp)).trans hA1
  have c0 : w1.cell? ⟨w.heap.size, 0, none⟩ = some (.int .i64 op) := by rw [cell_of_row _ _ _ _ _ _ ce]; rfl
  have c1 : w1.cell? ⟨w.heap.size, 1, none⟩ = some (.int .i64 n) := by rw [cell_of_row _ _ _ _ _ _ ce]; rfl
  have c2 : w1.cell? ⟨w.heap.size, 2, none⟩ = some (.string (ba ty)) := by rw [cell_of_row _ _ _ _ _ _ ce]; rfl
  have c3 : w1.cell? ⟨w.heap.size, 3, none⟩ = some (.bool ifc) := by rw [cell_of_row _ _ _ _ _ _ ce]; rfl
  have c4 : w1.cell? ⟨w.heap.size, 4, none⟩ = some (.string (ba cls)) := by rw [cell_of_row _ _ _ _ _ _ ce]; rfl
  have c5 : w1.cell? ⟨w.heap.size, 5, none⟩ = some (.string (ba nm)) := by rw [cell_of_row _ _ _ _ _ _ ce]; rfl
  have c6 : w1.cell? ⟨w.heap.size, 6, none⟩ = some (.string (ba ds)) := by rw [cell_of_row _ _ _ _ _ _ ce]; rfl
  have d0 : w1.cell? ⟨w.heap.size + 1, 0, none⟩ = some (.int .i64 op) := by rw [cell_of_row _ _ _ _ _ _ de]; rfl
  have d1 : w1.cell? ⟨w.heap.size + 1, 1, none⟩ = some (.int .i64 0) := by rw [cell_of_row _ _ _ _ _ _ de]; rfl
  have d2 : w1.cell? ⟨w.heap.size + 1, 2, none⟩ = some (.string ⟨#[]⟩) := by rw [cell_of_row _ _ _ _ _ _ de]; rfl
  have d3 : w1.cell? ⟨w.heap.size + 1, 3, none⟩ = some (.bool false) := by rw [cell_of_row _ _ _ _ _ _ de]; rfl
  have d4 : w1.cell? ⟨w.heap.size + 1, 4, none⟩ = some (.string ⟨#[]⟩) := by rw [cell_of_row _ _ _ _ _ _ de]; rfl
  have d5 : w1.cell? ⟨w.heap.size + 1, 5, none⟩ = some (.string ⟨#[]⟩) := by rw [cell_of_row _ _ _ _ _ _ de]; rfl
  have d6 : w1.cell? ⟨w.heap.size + 1, 6, none⟩ = some (.string ⟨#[]⟩) := by rw [cell_of_row _ _ _ _ _ _ de]; rfl
  have f1 : w1.frozen? ⟨w.heap.size + 1, 1, none⟩ = false := by simp [World.frozen?, de]
  have f2 : w1.frozen? ⟨w.heap.size + 1, 2, none⟩ = false := by simp [World.frozen?, de]
  have f3 : w1.frozen? ⟨w.heap.size + 1, 3, none⟩ = false := by simp [World.frozen?, de]
  have f4 : w1.frozen? ⟨w.heap.size + 1, 4, none⟩ = false := by simp [World.frozen?, de]
  have f5 : w1.frozen? ⟨w.heap.size + 1, 5, none⟩ = false := by simp [World.frozen?, de]
  have f6 : w1.frozen? ⟨w.heap.size + 1, 6, none⟩ = false := by simp [World.frozen?, de]
  have HB1 : Hid (Below w.heap.size w w1) := Lib.hid (hB.trans (hb1.mono (by simp; omega)))
  clear hb1 hB hA0 hA1 ce de
  have hk : k = 1 ∨ k = 2 ∨ k = 3 ∨ k = 4 ∨ k = 5 ∨ k = 6 ∨ k = 7 ∨ k = 8 ∨ (k ≠ 1 ∧ k ≠ 2 ∧ k ≠ 3 ∧ k ≠ 4 ∧ k ≠ 5 ∧ k ≠ 6 ∧ k ≠ 7 ∧ k ≠ 8) := by omega
  rcases hk with rfl | rfl | rfl | rfl | rfl | rfl | rfl | rfl | ⟨k1, k2, k3, k4, k5, k6, k7, k8⟩
  · have HX : Hid (R = (ty.isEmpty && refZ ifc cls nm ds && ok)) := Lib.hid (by rw [HR0.out]; unfold bareB; rfl)
    have HB2 : Hid (Below w.heap.size w (w1.setCell ⟨w.heap.size + 1, 1, none⟩ (.int .i64 n))) := Lib.hid (HB1.out.setCell (by simp) _)
    have HO2 := Lib.hid (HOP.out _ (HE.out.below HB2.out))
    clear HOP HO HR0
    cases ifc
    · have HT := Lib.hid (fun h : ¬(ba ty).toList = [] => (show R = false by rw [HX.out]; rw [ba_no h]; simp))
      have HC := Lib.hid (fun h : ¬(ba cls).toList = [] => (show R = false by rw [HX.out]; unfold refZ; rw [ba_no h]; simp))
      have HN := Lib.hid (fun h : ¬(ba nm).toList = [] => (show R = false by rw [HX.out]; unfold refZ; rw [ba_no h]; simp))
      have HD := Lib.hid (fun h : ¬(ba ds).toList = [] => (show R = false by rw [HX.out]; unfold refZ; rw [ba_no h]; simp))
      have HG := Lib.hid (fun (a1 : (ba ty).toList = []) (a2 : (ba cls).toList = []) (a3 : (ba nm).toList = []) (a4 : (ba ds).toList = []) => (show R = ok by rw [HX.out]; unfold refZ; rw [ba_yes a1, ba_yes a2, ba_yes a3, ba_yes a4]; simp))
      go_wp2_with fail
      all_goals first
        | (go_ret; exact ⟨by first | (rw [HT.out (by assumption)]; rfl) | (rw [HC.out (by assumption)]; rfl) | (rw [HN.out (by assumption)]; rfl) | (rw [HD.out (by assumption)]; rfl), HB2.out⟩)
        | skip
      refine HO2.out.mono ?_
      rintro e w2 ⟨rfl, hb2⟩
      have HGG := Lib.hid (HG.out (by assumption) (by assumption) (by assumption) (by assumption))
      have HB3 := Lib.hid (HB2.out.trans (hb2.mono HB2.out.size))
      clear hb2
      cases ok
      all_goals
        go_wp2
        go_ret
        exact ⟨by rw [HGG.out]; rfl, HB3.out⟩
    · have G : Hid (R = false) := Lib.hid (by rw [HX.out]; unfold refZ; simp)
      go_wp2
      all_goals
        go_ret
        exact ⟨by rw [G.out]; rfl, HB2.out⟩
  · have HX : Hid (R = (ty.isEmpty && refZ ifc cls nm ds && ok)) := Lib.hid (by rw [HR0.out]; unfold bareB; rfl)
    have HB2 : Hid (Below w.heap.size w (w1.setCell ⟨w.heap.size + 1, 1, none⟩ (.int .i64 n))) := Lib.hid (HB1.out.setCell (by simp) _)
    have HO2 := Lib.hid (HOP.out _ (HE.out.below HB2.out))
    clear HOP HO HR0
    cases ifc
    · have HT := Lib.hid (fun h : ¬(ba ty).toList = [] => (show R = false by rw [HX.out]; rw [ba_no h]; simp))
      have HC := Lib.hid (fun h : ¬(ba cls).toList = [] => (show R = false by rw [HX.out]; unfold refZ; rw [ba_no h]; simp))
      have HN := Lib.hid (fun h : ¬(ba nm).toList = [] => (show R = false by rw [HX.out]; unfold refZ; rw [ba_no h]; simp))
      have HD := Lib.hid (fun h : ¬(ba ds).toList = [] => (show R = false by rw [HX.out]; unfold refZ; rw [ba_no h]; simp))
      have HG := Lib.hid (fun (a1 : (ba ty).toList = []) (a2 : (ba cls).toList = []) (a3 : (ba nm).toList = []) (a4 : (ba ds).toList = []) => (show R = ok by rw [HX.out]; unfold refZ; rw [ba_yes a1, ba_yes a2, ba_yes a3, ba_yes a4]; simp))
      go_wp2_with fail
      all_goals first
        | (go_ret; exact ⟨by first | (rw [HT.out (by assumption)]; rfl) | (rw [HC.out (by assumption)]; rfl) | (rw [HN.out (by assumption)]; rfl) | (rw [HD.out (by assumption)]; rfl), HB2.out⟩)
        | skip
      refine HO2.out.mono ?_
      rintro e w2 ⟨rfl, hb2⟩
      have HGG := Lib.hid (HG.out (by assumption) (by assumption) (by assumption) (by assumption))
      have HB3 := Lib.hid (HB2.out.trans (hb2.mono HB2.out.size))
      clear hb2
      cases ok
      all_goals
        go_wp2
        go_ret
        exact ⟨by rw [HGG.out]; rfl, HB3.out⟩
    · have G : Hid (R = false) := Lib.hid (by rw [HX.out]; unfold refZ; simp)
      go_wp2
      all_goals
        go_ret
        exact ⟨by rw [G.out]; rfl, HB2.out⟩
  · have HX : Hid (R = (ty.isEmpty && refZ ifc cls nm ds && ok)) := Lib.hid (by rw [HR0.out]; unfold bareB; rfl)
    have HB2 : Hid (Below w.heap.size w (w1.setCell ⟨w.heap.size + 1, 1, none⟩ (.int .i64 n))) := Lib.hid (HB1.out.setCell (by simp) _)
    have HO2 := Lib.hid (HOP.out _ (HE.out.below HB2.out))
    clear HOP HO HR0
    cases ifc
    · have HT := Lib.hid (fun h : ¬(ba ty).toList = [] => (show R = false by rw [HX.out]; rw [ba_no h]; simp))
      have HC := Lib.hid (fun h : ¬(ba cls).toList = [] => (show R = false by rw [HX.out]; unfold refZ; rw [ba_no h]; simp))
      have HN := Lib.hid (fun h : ¬(ba nm).toList = [] => (show R = false by rw [HX.out]; unfold refZ; rw [ba_no h]; simp))
      have HD := Lib.hid (fun h : ¬(ba ds).toList = [] => (show R = false by rw [HX.out]; unfold refZ; rw [ba_no h]; simp))
      have HG := Lib.hid (fun (a1 : (ba ty).toList = []) (a2 : (ba cls).toList = []) (a3 : (ba nm).toList = []) (a4 : (ba ds).toList = []) => (show R = ok by rw [HX.out]; unfold refZ; rw [ba_yes a1, ba_yes a2, ba_yes a3, ba_yes a4]; simp))
      go_wp2_with fail
      all_goals first
        | (go_ret; exact ⟨by first | (rw [HT.out (by assumption)]; rfl) | (rw [HC.out (by assumption)]; rfl) | (rw [HN.out (by assumption)]; rfl) | (rw [HD.out (by assumption)]; rfl), HB2.out⟩)
        | skip
      refine HO2.out.mono ?_
      rintro e w2 ⟨rfl, hb2⟩
      have HGG := Lib.hid (HG.out (by assumption) (by assumption) (by assumption) (by assumption))
      have HB3 := Lib.hid (HB2.out.trans (hb2.mono HB2.out.size))
      clear hb2
      cases ok
      all_goals
        go_wp2
        go_ret
        exact ⟨by rw [HGG.out]; rfl, HB3.out⟩
    · have G : Hid (R = false) := Lib.hid (by rw [HX.out]; unfold refZ; simp)
      go_wp2
      all_goals
        go_ret
        exact ⟨by rw [G.out]; rfl, HB2.out⟩
  · have HX : Hid (R = (decide (n = 0) && refZ ifc cls nm ds && ok)) := Lib.hid (by rw [HR0.out]; unfold bareB; rfl)
    have HB2 : Hid (Below w.heap.size w (w1.setCell ⟨w.heap.size + 1, 2, none⟩ (.string (ba ty)))) := Lib.hid (HB1.out.setCell (by simp) _)
    have HO2 := Lib.hid (HOP.out _ (HE.out.below HB2.out))
    clear HOP HO HR0
    cases ifc
    · have HNN := Lib.hid (fun h : n ≠ 0 => (show R = false by rw [HX.out]; simp [h]))
      have HC := Lib.hid (fun h : ¬(ba cls).toList = [] => (show R = false by rw [HX.out]; unfold refZ; rw [ba_no h]; simp))
      have HN := Lib.hid (fun h : ¬(ba nm).toList = [] => (show R = false by rw [HX.out]; unfold refZ; rw [ba_no h]; simp))
      have HD := Lib.hid (fun h : ¬(ba ds).toList = [] => (show R = false by rw [HX.out]; unfold refZ; rw [ba_no h]; simp))
      have HG := Lib.hid (fun (a0 : n = 0) (a2 : (ba cls).toList = []) (a3 : (ba nm).toList = []) (a4 : (ba ds).toList = []) => (show R = ok by rw [HX.out]; unfold refZ; rw [ba_yes a2, ba_yes a3, ba_yes a4]; simp [a0]))
      go_wp2_with fail
      all_goals first
        | (go_ret; exact ⟨by first | (rw [HNN.out (by assumption)]; rfl) | (rw [HNN.out (fun h => absurd h.symm (by assumption))]; rfl) | (rw [HC.out (by assumption)]; rfl) | (rw [HN.out (by assumption)]; rfl) | (rw [HD.out (by assumption)]; rfl), HB2.out⟩)
        | skip
      refine HO2.out.mono ?_
      rintro e w2 ⟨rfl, hb2⟩
      have HGG := Lib.hid (HG.out (by first | assumption | exact Eq.symm (by assumption) | rfl) (by assumption) (by assumption) (by assumption))
      have HB3 := Lib.hid (HB2.out.trans (hb2.mono HB2.out.size))
      clear hb2
      cases ok
      all_goals
        go_wp2
        go_ret
        exact ⟨by rw [HGG.out]; rfl, HB3.out⟩
    · have G : Hid (R = false) := Lib.hid (by rw [HX.out]; unfold refZ; simp)
      go_wp2
      all_goals
        go_ret
        exact ⟨by rw [G.out]; rfl, HB2.out⟩
  · have HX : Hid (R = (decide (n = 0) && refZ ifc cls nm ds && ok)) := Lib.hid (by rw [HR0.out]; unfold bareB; rfl)
    have HB2 : Hid (Below w.heap.size w (w1.setCell ⟨w.heap.size + 1, 2, none⟩ (.string (ba ty)))) := Lib.hid (HB1.out.setCell (by simp) _)
    have HO2 := Lib.hid (HOP.out _ (HE.out.below HB2.out))
    clear HOP HO HR0
    cases ifc
    · have HNN := Lib.hid (fun h : n ≠ 0 => (show R = false by rw [HX.out]; simp [h]))
      have HC := Lib.hid (fun h : ¬(ba cls).toList = [] => (show R = false by rw [HX.out]; unfold refZ; rw [ba_no h]; simp))
      have HN := Lib.hid (fun h : ¬(ba nm).toList = [] => (show R = false by rw [HX.out]; unfold refZ; rw [ba_no h]; simp))
      have HD := Lib.hid (fun h : ¬(ba ds).toList = [] => (show R = false by rw [HX.out]; unfold refZ; rw [ba_no h]; simp))
      have HG := Lib.hid (fun (a0 : n = 0) (a2 : (ba cls).toList = []) (a3 : (ba nm).toList = []) (a4 : (ba ds).toList = []) => (show R = ok by rw [HX.out]; unfold refZ; rw [ba_yes a2, ba_yes a3, ba_yes a4]; simp [a0]))
      go_wp2_with fail
      all_goals first
        | (go_ret; exact ⟨by first | (rw [HNN.out (by assumption)]; rfl) | (rw [HNN.out (fun h => absurd h.symm (by assumption))]; rfl) | (rw [HC.out (by assumption)]; rfl) | (rw [HN.out (by assumption)]; rfl) | (rw [HD.out (by assumption)]; rfl), HB2.out⟩)
        | skip
      refine HO2.out.mono ?_
      rintro e w2 ⟨rfl, hb2⟩
      have HGG := Lib.hid (HG.out (by first | assumption | exact Eq.symm (by assumption) | rfl) (by assumption) (by assumption) (by assumption))
      have HB3 := Lib.hid (HB2.out.trans (hb2.mono HB2.out.size))
      clear hb2
      cases ok
      all_goals
        go_wp2
        go_ret
        exact ⟨by rw [HGG.out]; rfl, HB3.out⟩
    · have G : Hid (R = false) := Lib.hid (by rw [HX.out]; unfold refZ; simp)
      go_wp2
      all_goals
        go_ret
        exact ⟨by rw [G.out]; rfl, HB2.out⟩
  · have HX : Hid (R = (decide (n = 0) && refZ ifc cls nm ds && ok)) := Lib.hid (by rw [HR0.out]; unfold bareB; rfl)
    have HB2 : Hid (Below w.heap.size w (w1.setCell ⟨w.heap.size + 1, 2, none⟩ (.string (ba ty)))) := Lib.hid (HB1.out.setCell (by simp) _)
    have HO2 := Lib.hid (HOP.out _ (HE.out.below HB2.out))
    clear HOP HO HR0
    cases ifc
    · have HNN := Lib.hid (fun h : n ≠ 0 => (show R = false by rw [HX.out]; simp [h]))
      have HC := Lib.hid (fun h : ¬(ba cls).toList = [] => (show R = false by rw [HX.out]; unfold refZ; rw [ba_no h]; simp))
      have HN := Lib.hid (fun h : ¬(ba nm).toList = [] => (show R = false by rw [HX.out]; unfold refZ; rw [ba_no h]; simp))
      have HD := Lib.hid (fun h : ¬(ba ds).toList = [] => (show R = false by rw [HX.out]; unfold refZ; rw [ba_no h]; simp))
      have HG := Lib.hid (fun (a0 : n = 0) (a2 : (ba cls).toList = []) (a3 : (ba nm).toList = []) (a4 : (ba ds).toList = []) => (show R = ok by rw [HX.out]; unfold refZ; rw [ba_yes a2, ba_yes a3, ba_yes a4]; simp [a0]))
      go_wp2_with fail
      all_goals first
        | (go_ret; exact ⟨by first | (rw [HNN.out (by assumption)]; rfl) | (rw [HNN.out (fun h => absurd h.symm (by assumption))]; rfl) | (rw [HC.out (by assumption)]; rfl) | (rw [HN.out (by assumption)]; rfl) | (rw [HD.out (by assumption)]; rfl), HB2.out⟩)
        | skip
      refine HO2.out.mono ?_
      rintro e w2 ⟨rfl, hb2⟩
      have HGG := Lib.hid (HG.out (by first | assumption | exact Eq.symm (by assumption) | rfl) (by assumption) (by assumption) (by assumption))
      have HB3 := Lib.hid (HB2.out.trans (hb2.mono HB2.out.size))
      clear hb2
      cases ok
      all_goals
        go_wp2
        go_ret
        exact ⟨by rw [HGG.out]; rfl, HB3.out⟩
    · have G : Hid (R = false) := Lib.hid (by rw [HX.out]; unfold refZ; simp)
      go_wp2
      all_goals
        go_ret
        exact ⟨by rw [G.out]; rfl, HB2.out⟩
  · have HX : Hid (R = (refZ ifc cls nm ds && ok)) := Lib.hid (by rw [HR0.out]; unfold bareB; rfl)
    have HB2 : Hid (Below w.heap.size w ((w1.drew.setCell ⟨w.heap.size + 1, 1, none⟩ (.int .i64 n)).setCell ⟨w.heap.size + 1, 2, none⟩ (.string (ba ty)))) := Lib.hid ((HB1.out.drew.setCell (by simp) _).setCell (by simp) _)
    have HO2 := Lib.hid (HOP.out _ (HE.out.below HB2.out))
    clear HOP HO HR0
    cases ifc
    · have HC := Lib.hid (fun h : ¬(ba cls).toList = [] => (show R = false by rw [HX.out]; unfold refZ; rw [ba_no h]; simp))
      have HN := Lib.hid (fun h : ¬(ba nm).toList = [] => (show R = false by rw [HX.out]; unfold refZ; rw [ba_no h]; simp))
      have HD := Lib.hid (fun h : ¬(ba ds).toList = [] => (show R = false by rw [HX.out]; unfold refZ; rw [ba_no h]; simp))
      have HG := Lib.hid (fun (a2 : (ba cls).toList = []) (a3 : (ba nm).toList = []) (a4 : (ba ds).toList = []) => (show R = ok by rw [HX.out]; unfold refZ; rw [ba_yes a2, ba_yes a3, ba_yes a4]; simp))
      go_wp2_with fail
      go_region
      go_wp2_with fail
      all_goals first
        | (go_ret; exact ⟨by first | (rw [HC.out (by assumption)]; rfl) | (rw [HN.out (by assumption)]; rfl) | (rw [HD.out (by assumption)]; rfl), HB2.out⟩)
        | skip
      refine HO2.out.mono ?_
      rintro e w2 ⟨rfl, hb2⟩
      have HGG := Lib.hid (HG.out (by assumption) (by assumption) (by assumption))
      have HB3 := Lib.hid (HB2.out.trans (hb2.mono HB2.out.size))
      clear hb2
      cases ok
      all_goals
        go_wp2
        go_ret
        exact ⟨by rw [HGG.out]; rfl, HB3.out⟩
    · have G : Hid (R = false) := Lib.hid (by rw [HX.out]; unfold refZ; simp)
      go_wp2_with fail
      go_region
      go_wp2
      all_goals
        go_ret
        exact ⟨by rw [G.out]; rfl, HB2.out⟩
  · have HX : Hid (R = (decide (n = 0) && ty.isEmpty && ok)) := Lib.hid (by rw [HR0.out]; unfold bareB; rfl)
    have HB2 : Hid (Below w.heap.size w ((((w1.setCell ⟨w.heap.size + 1, 3, none⟩ (.bool ifc)).setCell ⟨w.heap.size + 1, 4, none⟩ (.string (ba cls))).setCell ⟨w.heap.size + 1, 5, none⟩ (.string (ba nm))).setCell ⟨w.heap.size + 1, 6, none⟩ (.string (ba ds)))) := Lib.hid ((((HB1.out.setCell (by simp) _).setCell (by simp) _).setCell (by simp) _).setCell (by simp) _)
    have HO2 := Lib.hid (HOP.out _ (HE.out.below HB2.out))
    clear HOP HO HR0
    have HNN := Lib.hid (fun h : n ≠ 0 => (show R = false by rw [HX.out]; simp [h]))
    have HT := Lib.hid (fun h : ¬(ba ty).toList = [] => (show R = false by rw [HX.out]; rw [ba_no h]; simp))
    have HG := Lib.hid (fun (a0 : n = 0) (a1 : (ba ty).toList = []) => (show R = ok by rw [HX.out]; rw [ba_yes a1]; simp [a0]))
    cases ifc
    · go_wp2_with fail
      all_goals first
        | (go_ret; exact ⟨by first | (rw [HNN.out (by assumption)]; rfl) | (rw [HNN.out (fun h => absurd h.symm (by assumption))]; rfl) | (rw [HT.out (by assumption)]; rfl), HB2.out⟩)
        | skip
      refine HO2.out.mono ?_
      rintro e w2 ⟨rfl, hb2⟩
      have HGG := Lib.hid (HG.out (by first | assumption | exact Eq.symm (by assumption) | rfl) (by assumption))
      have HB3 := Lib.hid (HB2.out.trans (hb2.mono HB2.out.size))
      clear hb2
      cases ok
      all_goals
        go_wp2
        go_ret
        exact ⟨by rw [HGG.out]; rfl, HB3.out⟩
    · go_wp2_with fail
      all_goals first
        | (go_ret; exact ⟨by first | (rw [HNN.out (by assumption)]; rfl) | (rw [HNN.out (fun h => absurd h.symm (by assumption))]; rfl) | (rw [HT.out (by assumption)]; rfl), HB2.out⟩)
        | skip
      refine HO2.out.mono ?_
      rintro e w2 ⟨rfl, hb2⟩
      have HGG := Lib.hid (HG.out (by first | assumption | exact Eq.symm (by assumption) | rfl) (by assumption))
      have HB3 := Lib.hid (HB2.out.trans (hb2.mono HB2.out.size))
      clear hb2
      cases ok
      all_goals
        go_wp2
        go_ret
        exact ⟨by rw [HGG.out]; rfl, HB3.out⟩
  · have HX : Hid (R = (decide (n = 0) && ty.isEmpty && refZ ifc cls nm ds && ok)) := Lib.hid (by rw [HR0.out]; unfold bareB; simp [k1, k2, k3, k4, k5, k6, k7, k8])
    have HB2 : Hid (Below w.heap.size w w1) := Lib.hid HB1.out
    have HO2 := Lib.hid (HOP.out _ (HE.out.below HB2.out))
    clear HOP HO HR0
    cases ifc
    · have HNN := Lib.hid (fun h : n ≠ 0 => (show R = false by rw [HX.out]; simp [h]))
      have HT := Lib.hid (fun h : ¬(ba ty).toList = [] => (show R = false by rw [HX.out]; rw [ba_no h]; simp))
      have HC := Lib.hid (fun h : ¬(ba cls).toList = [] => (show R = false by rw [HX.out]; unfold refZ; rw [ba_no h]; simp))
      have HN := Lib.hid (fun h : ¬(ba nm).toList = [] => (show R = false by rw [HX.out]; unfold refZ; rw [ba_no h]; simp))
      have HD := Lib.hid (fun h : ¬(ba ds).toList = [] => (show R = false by rw [HX.out]; unfold refZ; rw [ba_no h]; simp))
      have HG := Lib.hid (fun (a0 : n = 0) (a1 : (ba ty).toList = []) (a2 : (ba cls).toList = []) (a3 : (ba nm).toList = []) (a4 : (ba ds).toList = []) => (show R = ok by rw [HX.out]; unfold refZ; rw [ba_yes a1, ba_yes a2, ba_yes a3, ba_yes a4]; simp [a0]))
      go_wp2_with fail
      all_goals first
        | (go_ret; exact ⟨by first | (rw [HNN.out (by assumption)]; rfl) | (rw [HNN.out (fun h => absurd h.symm (by assumption))]; rfl) | (rw [HT.out (by assumption)]; rfl) | (rw [HC.out (by assumption)]; rfl) | (rw [HN.out (by assumption)]; rfl) | (rw [HD.out (by assumption)]; rfl), HB2.out⟩)
        | skip
      refine HO2.out.mono ?_
      rintro e w2 ⟨rfl, hb2⟩
      have HGG := Lib.hid (HG.out (by first | assumption | exact Eq.symm (by assumption) | rfl) (by assumption) (by assumption) (by assumption) (by assumption))
      have HB3 := Lib.hid (HB2.out.trans (hb2.mono HB2.out.size))
      clear hb2
      cases ok
      all_goals
        go_wp2
        go_ret
        exact ⟨by rw [HGG.out]; rfl, HB3.out⟩
    · have G : Hid (R = false) := Lib.hid (by rw [HX.out]; unfold refZ; simp)
      go_wp2
      all_goals
        go_ret
        exact ⟨by rw [G.out]; rfl, HB2.out⟩
end Go.Proofs.YtipinmbpdgjalaaGreatDoor.Pr
/- Instructions: a method's code. -/
set_option maxRecDepth 100000
set_option maxHeartbeats 2000000
set_option linter.unusedVariables false
set_option linter.unusedSimpArgs false
namespace Go.Proofs.YtipinmbpdgjalaaGreatDoor.Pr
open Go.RowKit Bs Hi

def instC (i : InstM) : Bool := instB i.op i.n i.ty.data.toList i.ref.iface i.ref.cls.data.toList i.ref.name.data.toList i.ref.desc.data.toList
def stepB (i : InstM) (len : Nat) (locals : Int) : Bool := instC i && !(decide (Lf.operandOf i.op = 2) && decide (locals ≤ i.n)) && !(decide (Lf.operandOf i.op = 3) && decide ((len : Int) ≤ i.n))
/-- Is a method's code sound? -/
def codeB (code : List InstM) (locals : Int) : Bool := decide (1 ≤ code.length) && decide (code.length ≤ 200) && code.all fun i => stepB i code.length locals

theorem CheckI (i : InstM) (w : World) (h1 : i.ty.size ≤ maxLen) (h2 : i.ref.cls.size ≤ maxLen) (h3 : i.ref.name.size ≤ maxLen) (h4 : i.ref.desc.size ≤ maxLen) (he : Lf.Env w) :
    Calls Tryz.prog 120 #[.agg #[.int .i64 i.op, .int .i64 i.n, .string i.ty, .bool i.ref.iface, .string i.ref.cls, .string i.ref.name, .string i.ref.desc]] w fun e w' => e = .returned (.int .i64 (formE (instC i))) ∧ Below w.heap.size w w' := by
  have := Check i.op i.n i.ref.iface i.ty.data.toList i.ref.cls.data.toList i.ref.name.data.toList i.ref.desc.data.toList w (by simpa using h1) (by simpa using h2) (by simpa using h3) (by simpa using h4) he
  simp only [ba_of] at this
  exact this

theorem CheckAll (S : Nat → Prop) (a : Option Addr) (c : Nat) (code : List InstM) (locals : Int) (w : World) (h : InstSl S w (.slice a code.length c) code) (hS : ∀ k, S k → k < w.heap.size) (he : Lf.Env w) :
    Calls Tryz.prog 107 #[.slice a code.length c, .int .i64 locals] w fun e w' => e = .returned (.int .i64 (formE (codeB code locals))) ∧ Below w.heap.size w w' := by
  have HE := Lib.hid he
  have HI := Lib.hid h
  have HS := Lib.hid hS
  clear h hS he
  by_cases hlen : 1 ≤ code.length ∧ code.length ≤ 200
  · have e1 : (decide (1 ≤ (code.length : Int)) && decide ((code.length : Int) ≤ 200)) = true := by simp; omega
    have hl2 := hlen.2
    have HC : Hid (codeB code locals = code.all fun i => stepB i code.length locals) := Lib.hid (by unfold codeB; rw [decide_eq_true hlen.1, decide_eq_true hlen.2]; rfl)
    go_enter Tryz.func107, Tryz.ntmps107
    go_wp2_with fail
    refine (Lf.within _ _ _ _).mono ?_
    rintro e _ ⟨rfl, rfl⟩
    rw [e1]
    go_wp2_with fail
    go_loopg [14] code.length (fun gk u wr => ∃ k : Nat, Hid (k + gk = code.length ∧ ∀ j (h : j < code.length), j < k → stepB code[j] code.length locals = true) ∧ u = .int .i64 k ∧ Hid (Below w.heap.size w wr))
    case atStart => exact ⟨0, Lib.hid ⟨Nat.zero_add _, fun j h hj => by omega⟩, rfl, Lib.hid (Below.refl _ _)⟩
    case round =>
      obtain ⟨k, hk, rfl, hB⟩ := hrel
      by_cases hlt : k < code.length
      · have hlt' : (k : Int) < (code.length : Int) := by omega
        obtain ⟨a', c', hf, hle, hby, hcells⟩ := HI.out
        injection hf with hf1 hf2 hf3
        subst hf1; subst hf3
        rcases hcells with hnil | ⟨b, o, rfl, hSb, hcell⟩
        · rw [hnil] at hlt; simp at hlt
        obtain ⟨cs, hcl, hcs, hR⟩ := hcell k hlt
        obtain ⟨rfl, i1, i2, i3, i4, i5, i6⟩ := hR
        have HSTEP : Hid (stepB code[k] code.length locals = false → codeB code locals = false) := Lib.hid fun h => by
          rw [HC.out, List.all_eq_false]
          exact ⟨code[k], List.getElem_mem hlt, by rw [h]; simp⟩
        have HNEXT : Hid (stepB code[k] code.length locals = true → ∀ j (h : j < code.length), j < k + 1 → stepB code[j] code.length locals = true) := Lib.hid fun h j hj hjk => by
          by_cases e : j = k
          · subst e; exact h
          · exact hk.out.2 j hj (by omega)
        have hbs := HS.out b hSb
        have cel : ∀ {j : Nat} {v : Value}, w.cell? ⟨b, j, none⟩ = some v → wr.cell? ⟨b, j, none⟩ = some v := fun hv => (World.cell?_of_block (w := w) (hB.out.block b hbs)).trans hv
        have g0 := cel (hcs 0 (by simp))
        have g1 := cel (hcs 1 (by simp))
        have g2 := cel (hcs 2 (by simp))
        have g3 := cel (hcs 3 (by simp))
        have g4 := cel (hcs 4 (by simp))
        have g5 := cel (hcs 5 (by simp))
        have g6 := cel (hcs 6 (by simp))
        simp only [List.getElem_cons_zero, List.getElem_cons_succ, Nat.add_zero] at g0 g1 g2 g3 g4 g5 g6
        have HCK := Lib.hid (CheckI code[k] · i3 i4 i5 i6 ·)
        have HOPD := Lib.hid (fun w' => Lf.Operand code[k].op w')
        clear hcs cel hcell i1 i2 i3 i4 i5 i6 hcl
        generalize code[k] = i at g0 g1 g2 g3 g4 g5 g6 HSTEP HNEXT HCK HOPD
        have HIS : Hid (stepB i code.length locals = (instC i && !(decide (Lf.operandOf i.op = 2) && decide (locals ≤ i.n)) && !(decide (Lf.operandOf i.op = 3) && decide ((code.length : Int) ≤ i.n)))) := Lib.hid rfl
        generalize stepB i code.length locals = st at HSTEP HNEXT HIS
        generalize instC i = ic at HCK HIS
        generalize Lf.operandOf i.op = kk at HOPD HIS
        have hBA : Below w.heap.size w (wr.alloc (.cells #[.int .i64 i.op, .int .i64 i.n, .string i.ty, .bool i.ref.iface, .string i.ref.cls, .string i.ref.name, .string i.ref.desc] 120)) := hB.out.alloc hB.out.size _
        have HBA := Lib.hid hBA
        clear hBA
        go_wp2_with fail
        refine (HOPD.out _).mono ?_
        rintro e w1 ⟨rfl, hb1⟩
        have ce : ∀ j : Nat, (wr.alloc (.cells #[.int .i64 i.op, .int .i64 i.n, .string i.ty, .bool i.ref.iface, .string i.ref.cls, .string i.ref.name, .string i.ref.desc] 120)).cell? ⟨wr.heap.size, j, none⟩ = (#[Value.int .i64 i.op, .int .i64 i.n, .string i.ty, .bool i.ref.iface, .string i.ref.cls, .string i.ref.name, .string i.ref.desc])[j]? := fun j => World.cell?_alloc_new ..
        have c0 : w1.cell? ⟨wr.heap.size, 0, none⟩ = some (.int .i64 i.op) := below_cell' hb1 (ce 0)
        have c1 : w1.cell? ⟨wr.heap.size, 1, none⟩ = some (.int .i64 i.n) := below_cell' hb1 (ce 1)
        have c2 : w1.cell? ⟨wr.heap.size, 2, none⟩ = some (.string i.ty) := below_cell' hb1 (ce 2)
        have c3 : w1.cell? ⟨wr.heap.size, 3, none⟩ = some (.bool i.ref.iface) := below_cell' hb1 (ce 3)
        have c4 : w1.cell? ⟨wr.heap.size, 4, none⟩ = some (.string i.ref.cls) := below_cell' hb1 (ce 4)
        have c5 : w1.cell? ⟨wr.heap.size, 5, none⟩ = some (.string i.ref.name) := below_cell' hb1 (ce 5)
        have c6 : w1.cell? ⟨wr.heap.size, 6, none⟩ = some (.string i.ref.desc) := below_cell' hb1 (ce 6)
        have HB1 : Hid (Below w.heap.size w w1) := Lib.hid (HBA.out.trans (hb1.mono HBA.out.size))
        clear hb1 ce g0 g1 g2 g3 g4 g5 g6
        go_wp2_with fail
        refine (HCK.out _ (HE.out.below HB1.out)).mono ?_
        rintro e w2 ⟨rfl, hb2⟩
        have d1 : w2.cell? ⟨wr.heap.size, 1, none⟩ = some (.int .i64 i.n) := below_cell' hb2 c1
        have HB2 : Hid (Below w.heap.size w w2) := Lib.hid (HB1.out.trans (hb2.mono HB1.out.size))
        clear hb2 c0 c1 c2 c3 c4 c5 c6 HCK HOPD
        unfold formE
        generalize i.n = nn at d1 HIS
        cases ic
        · have hst' : st = false := by rw [HIS.out]; rfl
          have HST := Lib.hid hst'
          clear hst'
          go_wp2
          go_ret
          exact ⟨by rw [HSTEP.out HST.out]; rfl, HB2.out⟩
        · by_cases k2 : kk = 2
          · subst k2
            by_cases hx : locals ≤ nn
            · have HST : Hid (st = false) := Lib.hid (by rw [HIS.out]; simp [hx])
              have hx' : decide (locals ≤ nn) = true := decide_eq_true hx
              go_wp2
              go_ret
              exact ⟨by rw [HSTEP.out HST.out]; rfl, HB2.out⟩
            · have HST : Hid (st = true) := Lib.hid (by rw [HIS.out]; simp [hx])
              have hx' : decide (locals ≤ nn) = false := decide_eq_false hx
              go_wp2
              go_roundg (code.length - (k + 1))
              case measure => have := hk.out.1; omega
              case rel => exact ⟨k + 1, Lib.hid ⟨by omega, HNEXT.out HST.out⟩, by go_num, HB2⟩
          · by_cases k3 : kk = 3
            · subst k3
              by_cases hx : (code.length : Int) ≤ nn
              · have HST : Hid (st = false) := Lib.hid (by rw [HIS.out]; simp [hx])
                have hx' : decide ((code.length : Int) ≤ nn) = true := decide_eq_true hx
                go_wp2
                go_ret
                exact ⟨by rw [HSTEP.out HST.out]; rfl, HB2.out⟩
              · have HST : Hid (st = true) := Lib.hid (by rw [HIS.out]; simp [hx])
                have hx' : decide ((code.length : Int) ≤ nn) = false := decide_eq_false hx
                go_wp2
                go_roundg (code.length - (k + 1))
                case measure => have := hk.out.1; omega
                case rel => exact ⟨k + 1, Lib.hid ⟨by omega, HNEXT.out HST.out⟩, by go_num, HB2⟩
            · have HST : Hid (st = true) := Lib.hid (by rw [HIS.out]; simp [k2, k3])
              have k2' : (kk == 2) = false := by simpa using k2
              have k3' : (kk == 3) = false := by simpa using k3
              go_wp2
              go_roundg (code.length - (k + 1))
              case measure => have := hk.out.1; omega
              case rel => exact ⟨k + 1, Lib.hid ⟨by omega, HNEXT.out HST.out⟩, by go_num, HB2⟩
      · have F : Hid (codeB code locals = true) := Lib.hid (by
          rw [HC.out, List.all_eq_true]
          intro x hx
          obtain ⟨j, hj, rfl⟩ := List.getElem_of_mem hx
          exact hk.out.2 j hj (by omega))
        go_wp2
        go_ret
        exact ⟨by rw [F.out]; rfl, hB.out⟩
  · have e1 : (decide (1 ≤ (code.length : Int)) && decide ((code.length : Int) ≤ 200)) = false := by
      cases hd : (decide (1 ≤ (code.length : Int)) && decide ((code.length : Int) ≤ 200)) with
      | false => rfl
      | true => simp at hd; omega
    have F : Hid (codeB code locals = false) := Lib.hid (by
      unfold codeB
      have : (decide (1 ≤ code.length) && decide (code.length ≤ 200)) = false := by
        cases hd : (decide (1 ≤ code.length) && decide (code.length ≤ 200)) with
        | false => rfl
        | true => simp at hd; omega
      rw [this]; rfl)
    obtain ⟨a', c', hf, hle, hby, hcells⟩ := HI.out
    clear hcells hlen
    go_enter Tryz.func107, Tryz.ntmps107
    go_wp2_with fail
    refine (Lf.within _ _ _ _).mono ?_
    rintro e _ ⟨rfl, rfl⟩
    rw [e1]
    go_wp2
    go_ret
    exact ⟨by rw [F.out]; rfl, Below.refl _ _⟩
end Go.Proofs.YtipinmbpdgjalaaGreatDoor.Pr
