/- Instructions: are they sound? -/
import Derived.Test.YtmpkdgankficeaaDoorPh
set_option maxRecDepth 100000
set_option maxHeartbeats 8000000
set_option linter.unusedVariables false
set_option linter.unusedSimpArgs false
namespace Go.Proofs.YtmpkdgankficeaaDoor.Pr
open Go.RowKit Bs

def refZ (ifc : Bool) (cls nm ds : List UInt8) : Bool := !ifc && cls.isEmpty && nm.isEmpty && ds.isEmpty
/-- Has the instruction nothing but what its operand has? -/
def bareB (k n : Int) (ty : List UInt8) (ifc : Bool) (cls nm ds : List UInt8) : Bool :=
  if k = 1 ∨ k = 2 ∨ k = 3 then ty.isEmpty && refZ ifc cls nm ds else if k = 4 ∨ k = 5 ∨ k = 6 then decide (n = 0) && refZ ifc cls nm ds else if k = 7 then refZ ifc cls nm ds
  else if k = 8 then decide (n = 0) && ty.isEmpty else decide (n = 0) && ty.isEmpty && refZ ifc cls nm ds
def instB (op n : Int) (ty : List UInt8) (ifc : Bool) (cls nm ds : List UInt8) : Bool := bareB (Lf.operandOf op) n ty ifc cls nm ds && opndB (Lf.operandOf op) n ty cls nm ds

theorem ba_no {l : List UInt8} (h : ¬(ba l).toList = []) : l.isEmpty = false := by
  rw [ba_toList] at h
  cases l with
  | nil => exact absurd rfl h
  | cons x r => rfl
theorem ba_yes {l : List UInt8} (h : (ba l).toList = []) : l.isEmpty = true := by
  rw [ba_toList] at h
  rw [h]; rfl

theorem Check (op n : Int) (ifc : Bool) (ty cls nm ds : List UInt8) (w : World) (h1 : ty.length ≤ maxLen) (h2 : cls.length ≤ maxLen) (h3 : nm.length ≤ maxLen) (h4 : ds.length ≤ maxLen) (he : Lf.Env w) :
    Calls Tryd.prog 86 #[.agg #[.int .i64 op, .int .i64 n, .string (ba ty), .bool ifc, .string (ba cls), .string (ba nm), .string (ba ds)]] w fun e w' => e = .returned (.int .i64 (formE (instB op n ty ifc cls nm ds))) ∧ Below w.heap.size w w' := by
  have HE := Lib.hid he
  have HO := Lib.hid (fun w' => Lf.Operand op w')
  have HOP := Lib.hid (fun w' he' => operand op n ifc ty cls nm ds w' h1 h2 h3 h4 he')
  have HR0 : Hid (instB op n ty ifc cls nm ds = (bareB (Lf.operandOf op) n ty ifc cls nm ds && opndB (Lf.operandOf op) n ty cls nm ds)) := Lib.hid rfl
  clear he h1 h2 h3 h4
  generalize instB op n ty ifc cls nm ds = R at HR0 ⊢
  generalize Lf.operandOf op = k at HO HOP HR0
  obtain ⟨ok, hok⟩ : ∃ ok, opndB k n ty cls nm ds = ok := ⟨_, rfl⟩
  rw [hok] at HOP HR0
  clear hok
  go_enter Tryd.func86, Tryd.ntmps86
  go_wp2_with fail
  refine (HO.out _).mono ?_
  rintro e w1 ⟨rfl, hb1⟩
  have hB := Hi.allocs_below [.cells #[.int .i64 op, .int .i64 n, .string (ba ty), .bool ifc, .string (ba cls), .string (ba nm), .string (ba ds)] 90, .cells #[.int .i64 op, .int .i64 0, .string ⟨#[]⟩, .bool false, .string ⟨#[]⟩, .string ⟨#[]⟩, .string ⟨#[]⟩] 90] w
  have hA0 := Hi.allocs_at [.cells #[.int .i64 op, .int .i64 n, .string (ba ty), .bool ifc, .string (ba cls), .string (ba nm), .string (ba ds)] 90, .cells #[.int .i64 op, .int .i64 0, .string ⟨#[]⟩, .bool false, .string ⟨#[]⟩, .string ⟨#[]⟩, .string ⟨#[]⟩] 90] w 0 (by simp)
  have hA1 := Hi.allocs_at [.cells #[.int .i64 op, .int .i64 n, .string (ba ty), .bool ifc, .string (ba cls), .string (ba nm), .string (ba ds)] 90, .cells #[.int .i64 op, .int .i64 0, .string ⟨#[]⟩, .bool false, .string ⟨#[]⟩, .string ⟨#[]⟩, .string ⟨#[]⟩] 90] w 1 (by simp)
  have ce : w1.heap[w.heap.size]? = some (.cells #[.int .i64 op, .int .i64 n, .string (ba ty), .bool ifc, .string (ba cls), .string (ba nm), .string (ba ds)] 90) := (hb1.block w.heap.size (by simp; omega)).trans hA0
  have de : w1.heap[w.heap.size + 1]? = some (.cells #[.int .i64 op, .int .i64 0, .string ⟨#[]⟩, .bool false, .string ⟨#[]⟩, .string ⟨#[]⟩, .string ⟨#[]⟩] 90) := (hb1.block (w.heap.size + 1) (by simp)).trans hA1
  have c0 : w1.cell? ⟨w.heap.size, 0, none⟩ = some (.int .i64 op) := by rw [cell_of_row _ _ _ _ _ _ ce]; rfl
  have c1 : w1.cell? ⟨w.heap.size, 1, none⟩ = some (.int .i64 n) := by rw [cell_of_row _ _ _ _ _ _ ce]; rfl
  have c2 : w1.cell? ⟨w.heap.size, 2, none⟩ = some (.string (ba ty)) := by rw [cell_of_row _ _ _ _ _ _ ce]; rfl
  have c3 : w1.cell? ⟨w.heap.size, 3, none⟩ = some (.bool ifc) := by rw [cell_of_row _ _ _ _ _ _ ce]; rfl
  have c4 : w1.cell? ⟨w.heap.size, 4, none⟩ = some (.string (ba cls)) := by rw [cell_of_row _ _ _ _ _ _ ce]; rfl
  have c5 : w1.cell? ⟨w.heap.size, 5, none⟩ = some (.string (ba nm)) := by rw [cell_of_row _ _ _ _ _ _ ce]; rfl
  have c6 : w1.cell? ⟨w.heap.size, 6, none⟩ = some (.string (ba ds)) := by rw [cell_of_row _ _ _ _ _ _ ce]; rfl
  have d0 : w1.cell? ⟨w.heap.size + 1, 0, none⟩ = some (.int .i64 op) := by rw [cell_of_row _ _ _ _ _ _ de]; rfl
  have d1 : w1.cell? ⟨w.heap.size + 1, 1, none⟩ = some (.int .i64 0) := by rw [cell_of_row _ _ _ _ _ _ de]; rfl
  have d2 : w1.cell? ⟨w.heap.size + 1, 2, none⟩ = some (.string ⟨#[]⟩) := by rw [cell_of_row _ _ _ _ _ _ de]; rfl
  have d3 : w1.cell? ⟨w.heap.size + 1, 3, none⟩ = some (.bool false) := by rw [cell_of_row _ _ _ _ _ _ de]; rfl
  have d4 : w1.cell? ⟨w.heap.size + 1, 4, none⟩ = some (.string ⟨#[]⟩) := by rw [cell_of_row _ _ _ _ _ _ de]; rfl
  have d5 : w1.cell? ⟨w.heap.size + 1, 5, none⟩ = some (.string ⟨#[]⟩) := by rw [cell_of_row _ _ _ _ _ _ de]; rfl
  have d6 : w1.cell? ⟨w.heap.size + 1, 6, none⟩ = some (.string ⟨#[]⟩) := by rw [cell_of_row _ _ _ _ _ _ de]; rfl
  have f1 : w1.frozen? ⟨w.heap.size + 1, 1, none⟩ = false := by simp [World.frozen?, de]
  have f2 : w1.frozen? ⟨w.heap.size + 1, 2, none⟩ = false := by simp [World.frozen?, de]
  have f3 : w1.frozen? ⟨w.heap.size + 1, 3, none⟩ = false := by simp [World.frozen?, de]
  have f4 : w1.frozen? ⟨w.heap.size + 1, 4, none⟩ = false := by simp [World.frozen?, de]
  have f5 : w1.frozen? ⟨w.heap.size + 1, 5, none⟩ = false := by simp [World.frozen?, de]
  have f6 : w1.frozen? ⟨w.heap.size + 1, 6, none⟩ = false := by simp [World.frozen?, de]
  have HB1 : Hid (Below w.heap.size w w1) := Lib.hid (hB.trans (hb1.mono (by simp; omega)))
  clear hb1 hB hA0 hA1 ce de
  have hk : k = 1 ∨ k = 2 ∨ k = 3 ∨ k = 4 ∨ k = 5 ∨ k = 6 ∨ k = 7 ∨ k = 8 ∨ (k ≠ 1 ∧ k ≠ 2 ∧ k ≠ 3 ∧ k ≠ 4 ∧ k ≠ 5 ∧ k ≠ 6 ∧ k ≠ 7 ∧ k ≠ 8) := by omega
  rcases hk with rfl | rfl | rfl | rfl | rfl | rfl | rfl | rfl | ⟨k1, k2, k3, k4, k5, k6, k7, k8⟩
  · have HX : Hid (R = (ty.isEmpty && refZ ifc cls nm ds && ok)) := Lib.hid (by rw [HR0.out]; unfold bareB; rfl)
    have HB2 : Hid (Below w.heap.size w (w1.setCell ⟨w.heap.size + 1, 1, none⟩ (.int .i64 n))) := Lib.hid (HB1.out.setCell (by simp) _)
    have HO2 := Lib.hid (HOP.out _ (HE.out.below HB2.out))
    clear HOP HO HR0
    cases ifc
    · have HT := Lib.hid (fun h : ¬(ba ty).toList = [] => (show R = false by rw [HX.out]; rw [ba_no h]; simp))
      have HC := Lib.hid (fun h : ¬(ba cls).toList = [] => (show R = false by rw [HX.out]; unfold refZ; rw [ba_no h]; simp))
      have HN := Lib.hid (fun h : ¬(ba nm).toList = [] => (show R = false by rw [HX.out]; unfold refZ; rw [ba_no h]; simp))
      have HD := Lib.hid (fun h : ¬(ba ds).toList = [] => (show R = false by rw [HX.out]; unfold refZ; rw [ba_no h]; simp))
      have HG := Lib.hid (fun (a1 : (ba ty).toList = []) (a2 : (ba cls).toList = []) (a3 : (ba nm).toList = []) (a4 : (ba ds).toList = []) => (show R = ok by rw [HX.out]; unfold refZ; rw [ba_yes a1, ba_yes a2, ba_yes a3, ba_yes a4]; simp))
      go_wp2_with fail
      all_goals first
        | (go_ret; exact ⟨by first | (rw [HT.out (by assumption)]; rfl) | (rw [HC.out (by assumption)]; rfl) | (rw [HN.out (by assumption)]; rfl) | (rw [HD.out (by assumption)]; rfl), HB2.out⟩)
        | skip
      refine HO2.out.mono ?_
      rintro e w2 ⟨rfl, hb2⟩
      have HGG := Lib.hid (HG.out (by assumption) (by assumption) (by assumption) (by assumption))
      have HB3 := Lib.hid (HB2.out.trans (hb2.mono HB2.out.size))
      clear hb2
      cases ok
      all_goals
        go_wp2
        go_ret
        exact ⟨by rw [HGG.out]; rfl, HB3.out⟩
    · have G : Hid (R = false) := Lib.hid (by rw [HX.out]; unfold refZ; simp)
      go_wp2
      all_goals
        go_ret
        exact ⟨by rw [G.out]; rfl, HB2.out⟩
  · have HX : Hid (R = (ty.isEmpty && refZ ifc cls nm ds && ok)) := Lib.hid (by rw [HR0.out]; unfold bareB; rfl)
    have HB2 : Hid (Below w.heap.size w (w1.setCell ⟨w.heap.size + 1, 1, none⟩ (.int .i64 n))) := Lib.hid (HB1.out.setCell (by simp) _)
    have HO2 := Lib.hid (HOP.out _ (HE.out.below HB2.out))
    clear HOP HO HR0
    cases ifc
    · have HT := Lib.hid (fun h : ¬(ba ty).toList = [] => (show R = false by rw [HX.out]; rw [ba_no h]; simp))
      have HC := Lib.hid (fun h : ¬(ba cls).toList = [] => (show R = false by rw [HX.out]; unfold refZ; rw [ba_no h]; simp))
      have HN := Lib.hid (fun h : ¬(ba nm).toList = [] => (show R = false by rw [HX.out]; unfold refZ; rw [ba_no h]; simp))
      have HD := Lib.hid (fun h : ¬(ba ds).toList = [] => (show R = false by rw [HX.out]; unfold refZ; rw [ba_no h]; simp))
      have HG := Lib.hid (fun (a1 : (ba ty).toList = []) (a2 : (ba cls).toList = []) (a3 : (ba nm).toList = []) (a4 : (ba ds).toList = []) => (show R = ok by rw [HX.out]; unfold refZ; rw [ba_yes a1, ba_yes a2, ba_yes a3, ba_yes a4]; simp))
      go_wp2_with fail
      all_goals first
        | (go_ret; exact ⟨by first | (rw [HT.out (by assumption)]; rfl) | (rw [HC.out (by assumption)]; rfl) | (rw [HN.out (by assumption)]; rfl) | (rw [HD.out (by assumption)]; rfl), HB2.out⟩)
        | skip
      refine HO2.out.mono ?_
      rintro e w2 ⟨rfl, hb2⟩
      have HGG := Lib.hid (HG.out (by assumption) (by assumption) (by assumption) (by assumption))
      have HB3 := Lib.hid (HB2.out.trans (hb2.mono HB2.out.size))
      clear hb2
      cases ok
      all_goals
        go_wp2
        go_ret
        exact ⟨by rw [HGG.out]; rfl, HB3.out⟩
    · have G : Hid (R = false) := Lib.hid (by rw [HX.out]; unfold refZ; simp)
      go_wp2
      all_goals
        go_ret
        exact ⟨by rw [G.out]; rfl, HB2.out⟩
  · have HX : Hid (R = (ty.isEmpty && refZ ifc cls nm ds && ok)) := Lib.hid (by rw [HR0.out]; unfold bareB; rfl)
    have HB2 : Hid (Below w.heap.size w (w1.setCell ⟨w.heap.size + 1, 1, none⟩ (.int .i64 n))) := Lib.hid (HB1.out.setCell (by simp) _)
    have HO2 := Lib.hid (HOP.out _ (HE.out.below HB2.out))
    clear HOP HO HR0
    cases ifc
    · have HT := Lib.hid (fun h : ¬(ba ty).toList = [] => (show R = false by rw [HX.out]; rw [ba_no h]; simp))
      have HC := Lib.hid (fun h : ¬(ba cls).toList = [] => (show R = false by rw [HX.out]; unfold refZ; rw [ba_no h]; simp))
      have HN := Lib.hid (fun h : ¬(ba nm).toList = [] => (show R = false by rw [HX.out]; unfold refZ; rw [ba_no h]; simp))
      have HD := Lib.hid (fun h : ¬(ba ds).toList = [] => (show R = false by rw [HX.out]; unfold refZ; rw [ba_no h]; simp))
      have HG := Lib.hid (fun (a1 : (ba ty).toList = []) (a2 : (ba cls).toList = []) (a3 : (ba nm).toList = []) (a4 : (ba ds).toList = []) => (show R = ok by rw [HX.out]; unfold refZ; rw [ba_yes a1, ba_yes a2, ba_yes a3, ba_yes a4]; simp))
      go_wp2_with fail
      all_goals first
        | (go_ret; exact ⟨by first | (rw [HT.out (by assumption)]; rfl) | (rw [HC.out (by assumption)]; rfl) | (rw [HN.out (by assumption)]; rfl) | (rw [HD.out (by assumption)]; rfl), HB2.out⟩)
        | skip
      refine HO2.out.mono ?_
      rintro e w2 ⟨rfl, hb2⟩
      have HGG := Lib.hid (HG.out (by assumption) (by assumption) (by assumption) (by assumption))
      have HB3 := Lib.hid (HB2.out.trans (hb2.mono HB2.out.size))
      clear hb2
      cases ok
      all_goals
        go_wp2
        go_ret
        exact ⟨by rw [HGG.out]; rfl, HB3.out⟩
    · have G : Hid (R = false) := Lib.hid (by rw [HX.out]; unfold refZ; simp)
      go_wp2
      all_goals
        go_ret
        exact ⟨by rw [G.out]; rfl, HB2.out⟩
  · have HX : Hid (R = (decide (n = 0) && refZ ifc cls nm ds && ok)) := Lib.hid (by rw [HR0.out]; unfold bareB; rfl)
    have HB2 : Hid (Below w.heap.size w (w1.setCell ⟨w.heap.size + 1, 2, none⟩ (.string (ba ty)))) := Lib.hid (HB1.out.setCell (by simp) _)
    have HO2 := Lib.hid (HOP.out _ (HE.out.below HB2.out))
    clear HOP HO HR0
    cases ifc
    · have HNN := Lib.hid (fun h : n ≠ 0 => (show R = false by rw [HX.out]; simp [h]))
      have HC := Lib.hid (fun h : ¬(ba cls).toList = [] => (show R = false by rw [HX.out]; unfold refZ; rw [ba_no h]; simp))
      have HN := Lib.hid (fun h : ¬(ba nm).toList = [] => (show R = false by rw [HX.out]; unfold refZ; rw [ba_no h]; simp))
      have HD := Lib.hid (fun h : ¬(ba ds).toList = [] => (show R = false by rw [HX.out]; unfold refZ; rw [ba_no h]; simp))
      have HG := Lib.hid (fun (a0 : n = 0) (a2 : (ba cls).toList = []) (a3 : (ba nm).toList = []) (a4 : (ba ds).toList = []) => (show R = ok by rw [HX.out]; unfold refZ; rw [ba_yes a2, ba_yes a3, ba_yes a4]; simp [a0]))
      go_wp2_with fail
      all_goals first
        | (go_ret; exact ⟨by first | (rw [HNN.out (by assumption)]; rfl) | (rw [HNN.out (fun h => absurd h.symm (by assumption))]; rfl) | (rw [HC.out (by assumption)]; rfl) | (rw [HN.out (by assumption)]; rfl) | (rw [HD.out (by assumption)]; rfl), HB2.out⟩)
        | skip
      refine HO2.out.mono ?_
      rintro e w2 ⟨rfl, hb2⟩
      have HGG := Lib.hid (HG.out (by first | assumption | exact Eq.symm (by assumption) | rfl) (by assumption) (by assumption) (by assumption))
      have HB3 := Lib.hid (HB2.out.trans (hb2.mono HB2.out.size))
      clear hb2
      cases ok
      all_goals
        go_wp2
        go_ret
        exact ⟨by rw [HGG.out]; rfl, HB3.out⟩
    · have G : Hid (R = false) := Lib.hid (by rw [HX.out]; unfold refZ; simp)
      go_wp2
      all_goals
        go_ret
        exact ⟨by rw [G.out]; rfl, HB2.out⟩
  · have HX : Hid (R = (decide (n = 0) && refZ ifc cls nm ds && ok)) := Lib.hid (by rw [HR0.out]; unfold bareB; rfl)
    have HB2 : Hid (Below w.heap.size w (w1.setCell ⟨w.heap.size + 1, 2, none⟩ (.string (ba ty)))) := Lib.hid (HB1.out.setCell (by simp) _)
    have HO2 := Lib.hid (HOP.out _ (HE.out.below HB2.out))
    clear HOP HO HR0
    cases ifc
    · have HNN := Lib.hid (fun h : n ≠ 0 => (show R = false by rw [HX.out]; simp [h]))
      have HC := Lib.hid (fun h : ¬(ba cls).toList = [] => (show R = false by rw [HX.out]; unfold refZ; rw [ba_no h]; simp))
      have HN := Lib.hid (fun h : ¬(ba nm).toList = [] => (show R = false by rw [HX.out]; unfold refZ; rw [ba_no h]; simp))
      have HD := Lib.hid (fun h : ¬(ba ds).toList = [] => (show R = false by rw [HX.out]; unfold refZ; rw [ba_no h]; simp))
      have HG := Lib.hid (fun (a0 : n = 0) (a2 : (ba cls).toList = []) (a3 : (ba nm).toList = []) (a4 : (ba ds).toList = []) => (show R = ok by rw [HX.out]; unfold refZ; rw [ba_yes a2, ba_yes a3, ba_yes a4]; simp [a0]))
      go_wp2_with fail
      all_goals first
        | (go_ret; exact ⟨by first | (rw [HNN.out (by assumption)]; rfl) | (rw [HNN.out (fun h => absurd h.symm (by assumption))]; rfl) | (rw [HC.out (by assumption)]; rfl) | (rw [HN.out (by assumption)]; rfl) | (rw [HD.out (by assumption)]; rfl), HB2.out⟩)
        | skip
      refine HO2.out.mono ?_
      rintro e w2 ⟨rfl, hb2⟩
      have HGG := Lib.hid (HG.out (by first | assumption | exact Eq.symm (by assumption) | rfl) (by assumption) (by assumption) (by assumption))
      have HB3 := Lib.hid (HB2.out.trans (hb2.mono HB2.out.size))
      clear hb2
      cases ok
      all_goals
        go_wp2
        go_ret
        exact ⟨by rw [HGG.out]; rfl, HB3.out⟩
    · have G : Hid (R = false) := Lib.hid (by rw [HX.out]; unfold refZ; simp)
      go_wp2
      all_goals
        go_ret
        exact ⟨by rw [G.out]; rfl, HB2.out⟩
  · have HX : Hid (R = (decide (n = 0) && refZ ifc cls nm ds && ok)) := Lib.hid (by rw [HR0.out]; unfold bareB; rfl)
    have HB2 : Hid (Below w.heap.size w (w1.setCell ⟨w.heap.size + 1, 2, none⟩ (.string (ba ty)))) := Lib.hid (HB1.out.setCell (by simp) _)
    have HO2 := Lib.hid (HOP.out _ (HE.out.below HB2.out))
    clear HOP HO HR0
    cases ifc
    · have HNN := Lib.hid (fun h : n ≠ 0 => (show R = false by rw [HX.out]; simp [h]))
      have HC := Lib.hid (fun h : ¬(ba cls).toList = [] => (show R = false by rw [HX.out]; unfold refZ; rw [ba_no h]; simp))
      have HN := Lib.hid (fun h : ¬(ba nm).toList = [] => (show R = false by rw [HX.out]; unfold refZ; rw [ba_no h]; simp))
      have HD := Lib.hid (fun h : ¬(ba ds).toList = [] => (show R = false by rw [HX.out]; unfold refZ; rw [ba_no h]; simp))
      have HG := Lib.hid (fun (a0 : n = 0) (a2 : (ba cls).toList = []) (a3 : (ba nm).toList = []) (a4 : (ba ds).toList = []) => (show R = ok by rw [HX.out]; unfold refZ; rw [ba_yes a2, ba_yes a3, ba_yes a4]; simp [a0]))
      go_wp2_with fail
      all_goals first
        | (go_ret; exact ⟨by first | (rw [HNN.out (by assumption)]; rfl) | (rw [HNN.out (fun h => absurd h.symm (by assumption))]; rfl) | (rw [HC.out (by assumption)]; rfl) | (rw [HN.out (by assumption)]; rfl) | (rw [HD.out (by assumption)]; rfl), HB2.out⟩)
        | skip
      refine HO2.out.mono ?_
      rintro e w2 ⟨rfl, hb2⟩
      have HGG := Lib.hid (HG.out (by first | assumption | exact Eq.symm (by assumption) | rfl) (by assumption) (by assumption) (by assumption))
      have HB3 := Lib.hid (HB2.out.trans (hb2.mono HB2.out.size))
      clear hb2
      cases ok
      all_goals
        go_wp2
        go_ret
        exact ⟨by rw [HGG.out]; rfl, HB3.out⟩
    · have G : Hid (R = false) := Lib.hid (by rw [HX.out]; unfold refZ; simp)
      go_wp2
      all_goals
        go_ret
        exact ⟨by rw [G.out]; rfl, HB2.out⟩
  · have HX : Hid (R = (refZ ifc cls nm ds && ok)) := Lib.hid (by rw [HR0.out]; unfold bareB; rfl)
    have HB2 : Hid (Below w.heap.size w ((w1.drew.setCell ⟨w.heap.size + 1, 1, none⟩ (.int .i64 n)).setCell ⟨w.heap.size + 1, 2, none⟩ (.string (ba ty)))) := Lib.hid ((HB1.out.drew.setCell (by simp) _).setCell (by simp) _)
    have HO2 := Lib.hid (HOP.out _ (HE.out.below HB2.out))
    clear HOP HO HR0
    cases ifc
    · have HC := Lib.hid (fun h : ¬(ba cls).toList = [] => (show R = false by rw [HX.out]; unfold refZ; rw [ba_no h]; simp))
      have HN := Lib.hid (fun h : ¬(ba nm).toList = [] => (show R = false by rw [HX.out]; unfold refZ; rw [ba_no h]; simp))
      have HD := Lib.hid (fun h : ¬(ba ds).toList = [] => (show R = false by rw [HX.out]; unfold refZ; rw [ba_no h]; simp))
      have HG := Lib.hid (fun (a2 : (ba cls).toList = []) (a3 : (ba nm).toList = []) (a4 : (ba ds).toList = []) => (show R = ok by rw [HX.out]; unfold refZ; rw [ba_yes a2, ba_yes a3, ba_yes a4]; simp))
      go_wp2_with fail
      go_region
      go_wp2_with fail
      all_goals first
        | (go_ret; exact ⟨by first | (rw [HC.out (by assumption)]; rfl) | (rw [HN.out (by assumption)]; rfl) | (rw [HD.out (by assumption)]; rfl), HB2.out⟩)
        | skip
      refine HO2.out.mono ?_
      rintro e w2 ⟨rfl, hb2⟩
      have HGG := Lib.hid (HG.out (by assumption) (by assumption) (by assumption))
      have HB3 := Lib.hid (HB2.out.trans (hb2.mono HB2.out.size))
      clear hb2
      cases ok
      all_goals
        go_wp2
        go_ret
        exact ⟨by rw [HGG.out]; rfl, HB3.out⟩
    · have G : Hid (R = false) := Lib.hid (by rw [HX.out]; unfold refZ; simp)
      go_wp2_with fail
      go_region
      go_wp2
      all_goals
        go_ret
        exact ⟨by rw [G.out]; rfl, HB2.out⟩
  · have HX : Hid (R = (decide (n = 0) && ty.isEmpty && ok)) := Lib.hid (by rw [HR0.out]; unfold bareB; rfl)
    have HB2 : Hid (Below w.heap.size w ((((w1.setCell ⟨w.heap.size + 1, 3, none⟩ (.bool ifc)).setCell ⟨w.heap.size + 1, 4, none⟩ (.string (ba cls))).setCell ⟨w.heap.size + 1, 5, none⟩ (.string (ba nm))).setCell ⟨w.heap.size + 1, 6, none⟩ (.string (ba ds)))) := Lib.hid ((((HB1.out.setCell (by simp) _).setCell (by simp) _).setCell (by simp) _).setCell (by simp) _)
    have HO2 := Lib.hid (HOP.out _ (HE.out.below HB2.out))
    clear HOP HO HR0
    have HNN := Lib.hid (fun h : n ≠ 0 => (show R = false by rw [HX.out]; simp [h]))
    have HT := Lib.hid (fun h : ¬(ba ty).toList = [] => (show R = false by rw [HX.out]; rw [ba_no h]; simp))
    have HG := Lib.hid (fun (a0 : n = 0) (a1 : (ba ty).toList = []) => (show R = ok by rw [HX.out]; rw [ba_yes a1]; simp [a0]))
    cases ifc
    · go_wp2_with fail
      all_goals first
        | (go_ret; exact ⟨by first | (rw [HNN.out (by assumption)]; rfl) | (rw [HNN.out (fun h => absurd h.symm (by assumption))]; rfl) | (rw [HT.out (by assumption)]; rfl), HB2.out⟩)
        | skip
      refine HO2.out.mono ?_
      rintro e w2 ⟨rfl, hb2⟩
      have HGG := Lib.hid (HG.out (by first | assumption | exact Eq.symm (by assumption) | rfl) (by assumption))
      have HB3 := Lib.hid (HB2.out.trans (hb2.mono HB2.out.size))
      clear hb2
      cases ok
      all_goals
        go_wp2
        go_ret
        exact ⟨by rw [HGG.out]; rfl, HB3.out⟩
    · go_wp2_with fail
      all_goals first
        | (go_ret; exact ⟨by first | (rw [HNN.out (by assumption)]; rfl) | (rw [HNN.out (fun h => absurd h.symm (by assumption))]; rfl) | (rw [HT.out (by assumption)]; rfl), HB2.out⟩)
        | skip
      refine HO2.out.mono ?_
      rintro e w2 ⟨rfl, hb2⟩
      have HGG := Lib.hid (HG.out (by first | assumption | exact Eq.symm (by assumption) | rfl) (by assumption))
      have HB3 := Lib.hid (HB2.out.trans (hb2.mono HB2.out.size))
      clear hb2
      cases ok
      all_goals
        go_wp2
        go_ret
        exact ⟨by rw [HGG.out]; rfl, HB3.out⟩
  · have HX : Hid (R = (decide (n = 0) && ty.isEmpty && refZ ifc cls nm ds && ok)) := Lib.hid (by rw [HR0.out]; unfold bareB; simp [k1, k2, k3, k4, k5, k6, k7, k8])
    have HB2 : Hid (Below w.heap.size w w1) := Lib.hid HB1.out
    have HO2 := Lib.hid (HOP.out _ (HE.out.below HB2.out))
    clear HOP HO HR0
    cases ifc
    · have HNN := Lib.hid (fun h : n ≠ 0 => (show R = false by rw [HX.out]; simp [h]))
      have HT := Lib.hid (fun h : ¬(ba ty).toList = [] => (show R = false by rw [HX.out]; rw [ba_no h]; simp))
      have HC := Lib.hid (fun h : ¬(ba cls).toList = [] => (show R = false by rw [HX.out]; unfold refZ; rw [ba_no h]; simp))
      have HN := Lib.hid (fun h : ¬(ba nm).toList = [] => (show R = false by rw [HX.out]; unfold refZ; rw [ba_no h]; simp))
      have HD := Lib.hid (fun h : ¬(ba ds).toList = [] => (show R = false by rw [HX.out]; unfold refZ; rw [ba_no h]; simp))
      have HG := Lib.hid (fun (a0 : n = 0) (a1 : (ba ty).toList = []) (a2 : (ba cls).toList = []) (a3 : (ba nm).toList = []) (a4 : (ba ds).toList = []) => (show R = ok by rw [HX.out]; unfold refZ; rw [ba_yes a1, ba_yes a2, ba_yes a3, ba_yes a4]; simp [a0]))
      go_wp2_with fail
      all_goals first
        | (go_ret; exact ⟨by first | (rw [HNN.out (by assumption)]; rfl) | (rw [HNN.out (fun h => absurd h.symm (by assumption))]; rfl) | (rw [HT.out (by assumption)]; rfl) | (rw [HC.out (by assumption)]; rfl) | (rw [HN.out (by assumption)]; rfl) | (rw [HD.out (by assumption)]; rfl), HB2.out⟩)
        | skip
      refine HO2.out.mono ?_
      rintro e w2 ⟨rfl, hb2⟩
      have HGG := Lib.hid (HG.out (by first | assumption | exact Eq.symm (by assumption) | rfl) (by assumption) (by assumption) (by assumption) (by assumption))
      have HB3 := Lib.hid (HB2.out.trans (hb2.mono HB2.out.size))
      clear hb2
      cases ok
      all_goals
        go_wp2
        go_ret
        exact ⟨by rw [HGG.out]; rfl, HB3.out⟩
    · have G : Hid (R = false) := Lib.hid (by rw [HX.out]; unfold refZ; simp)
      go_wp2
      all_goals
        go_ret
        exact ⟨by rw [G.out]; rfl, HB2.out⟩
end Go.Proofs.YtmpkdgankficeaaDoor.Pr
