/- Virtual tables: virtual, alike, overrides: the walks. -/
import Derived.Test.YtipinmbpdgjalaaGreatDoorJc
import Derived.Test.YtipinmbpdgjalaaGreatDoorOB
set_option maxRecDepth 100000
set_option maxHeartbeats 4000000
set_option linter.unusedVariables false
set_option linter.unusedSimpArgs false
namespace Go.Proofs.YtipinmbpdgjalaaGreatDoor.Hi
open Go.RowKit Go.Shelf Go.Sort Bs

theorem VVirtual {B bw : Nat} {w0 w : World} {m : List EntM} (h : Built B bw w0 w m) {p : Int × Int} {x : MethM} (hx : methAt m p = some x) :
    Calls Tryz.prog 53 #[.pointer (some ⟨bw, 0, none⟩), .agg #[.int .i64 p.1, .int .i64 p.2]] w fun e w' => e = .returned (.bool (virB m p)) ∧ Below w.heap.size w w' := by
  obtain ⟨wa, hwa⟩ : ∃ wa, (w.alloc (.cells #[.int .i64 p.1, .int .i64 p.2] 38)) = wa := ⟨_, rfl⟩
  have hba : Below w.heap.size w wa := by rw [← hwa]; exact (Below.refl _ _).alloc (Nat.le_refl _) _
  have p0 : wa.cell? ⟨w.heap.size, 0, none⟩ = some (.int .i64 p.1) := by rw [← hwa]; exact World.cell?_alloc_new ..
  have p1 : wa.cell? ⟨w.heap.size, 1, none⟩ = some (.int .i64 p.2) := by rw [← hwa]; exact World.cell?_alloc_new ..
  have HM := Lib.hid (OMethod_some (h.next hba) hx)
  have HI := Lib.hid (fun wr (hr : Below w.heap.size w wr) => (h.next hr).isIface p.1)
  have HB := Lib.hid hba
  have HP := Lib.hid p0
  have HR : Hid (virB m p = (!isIfaceM m p.1 && ((bits .and .i64 x.flags 10 == 0) && !(x.name.toList == initN.toList)))) := Lib.hid (by unfold virB virX; rw [hx])
  have hinit : initN.toList = [60, 105, 110, 105, 116, 62] := by decide +kernel
  rw [hinit] at HR
  obtain ⟨R, hR⟩ : ∃ R, virB m p = R := ⟨_, rfl⟩
  rw [hR] at HR ⊢
  clear h hx hba hR hinit
  go_enter Tryz.func53, Tryz.ntmps53
  go_wp2_with fail
  try rw [hwa]
  clear hwa
  refine HM.out.mono ?_
  rintro _ w1 ⟨ad, q, c, rfl, hb⟩
  obtain ⟨wx, hwx⟩ : ∃ wx, (w1.alloc (.cells #[.string x.name, .string x.desc, .int .i64 x.flags, .int .i64 x.locals, .int .i64 x.stack, .slice ad q c] 55)) = wx := ⟨_, rfl⟩
  have hbx : Below w1.heap.size w1 wx := by rw [← hwx]; exact (Below.refl _ _).alloc (Nat.le_refl _) _
  have x0 : wx.cell? ⟨w1.heap.size, 0, none⟩ = some (.string x.name) := by rw [← hwx]; exact World.cell?_alloc_new ..
  have x2 : wx.cell? ⟨w1.heap.size, 2, none⟩ = some (.int .i64 x.flags) := by rw [← hwx]; exact World.cell?_alloc_new ..
  have hb' := hb.trans (hbx.mono hb.size)
  have HB1 := Lib.hid (HB.out.trans (hb'.mono HB.out.size))
  have p0 := below_cell' hb' HP.out
  have HX := Lib.hid (And.intro x0 x2)
  have HIX := Lib.hid (HI.out wx HB1.out)
  clear hb hbx hb' HM HB HI p1
  go_wp2_with fail
  try rw [hwx]
  clear hwx
  refine HIX.out.mono ?_
  rintro _ w2 ⟨rfl, hb⟩
  have HB2 := Lib.hid (HB1.out.trans (hb.mono HB1.out.size))
  have x0 := below_cell' hb HX.out.1
  have x2 := below_cell' hb HX.out.2
  clear hb HIX HX HB1 p0
  cases h1 : isIfaceM m p.1
  all_goals
    cases h2 : (bits .and .i64 x.flags 10 == 0)
    all_goals
      cases h3 : (x.name.toList == [60, 105, 110, 105, 116, 62])
      all_goals
        rw [h1, h2, h3] at HR
        go_wp2
        go_ret
        exact ⟨by rw [HR.out]; rfl, HB2.out⟩
theorem VAlike {B bw : Nat} {w0 w : World} {m : List EntM} (h : Built B bw w0 w m) {p q : Int × Int} {x y : MethM} (hx : methAt m p = some x) (hy : methAt m q = some y) :
    Calls Tryz.prog 75 #[.pointer (some ⟨bw, 0, none⟩), .agg #[.int .i64 p.1, .int .i64 p.2], .agg #[.int .i64 q.1, .int .i64 q.2]] w fun e w' => e = .returned (.bool (alikeB m p q)) ∧ Below w.heap.size w w' := by
  obtain ⟨wp, hwp⟩ : ∃ wp, (w.alloc (.cells #[.int .i64 p.1, .int .i64 p.2] 38)) = wp := ⟨_, rfl⟩
  have hbp : Below w.heap.size w wp := by rw [← hwp]; exact (Below.refl _ _).alloc (Nat.le_refl _) _
  have p0 : wp.cell? ⟨w.heap.size, 0, none⟩ = some (.int .i64 p.1) := by rw [← hwp]; exact World.cell?_alloc_new ..
  have p1 : wp.cell? ⟨w.heap.size, 1, none⟩ = some (.int .i64 p.2) := by rw [← hwp]; exact World.cell?_alloc_new ..
  obtain ⟨wa, hwa⟩ : ∃ wa, (wp.alloc (.cells #[.int .i64 q.1, .int .i64 q.2] 38)) = wa := ⟨_, rfl⟩
  have hbq : Below wp.heap.size wp wa := by rw [← hwa]; exact (Below.refl _ _).alloc (Nat.le_refl _) _
  have q0 : wa.cell? ⟨wp.heap.size, 0, none⟩ = some (.int .i64 q.1) := by rw [← hwa]; exact World.cell?_alloc_new ..
  have q1 : wa.cell? ⟨wp.heap.size, 1, none⟩ = some (.int .i64 q.2) := by rw [← hwa]; exact World.cell?_alloc_new ..
  have p0 := below_cell' hbq p0
  have p1 := below_cell' hbq p1
  have hba := hbp.trans (hbq.mono hbp.size)
  have HM := Lib.hid (OMethod_some (h.next hba) hx)
  have HN := Lib.hid (fun wr (hr : Below w.heap.size w wr) => OMethod_some (h.next hr) hy)
  have HB := Lib.hid hba
  have HQ := Lib.hid (And.intro q0 q1)
  have HR : Hid (alikeB m p q = ((x.name.toList == y.name.toList) && (x.desc.toList == y.desc.toList))) := Lib.hid (by unfold alikeB; rw [hx, hy])
  obtain ⟨R, hR⟩ : ∃ R, alikeB m p q = R := ⟨_, rfl⟩
  rw [hR] at HR ⊢
  clear h hx hy hbp hbq hba hR q0 q1
  go_enter Tryz.func75, Tryz.ntmps75
  go_wp2_with fail
  try rw [hwp]
  try rw [hwa]
  clear hwp hwa
  refine HM.out.mono ?_
  rintro _ w1 ⟨ad, l, c, rfl, hb⟩
  obtain ⟨wx, hwx⟩ : ∃ wx, (w1.alloc (.cells #[.string x.name, .string x.desc, .int .i64 x.flags, .int .i64 x.locals, .int .i64 x.stack, .slice ad l c] 55)) = wx := ⟨_, rfl⟩
  have hbx : Below w1.heap.size w1 wx := by rw [← hwx]; exact (Below.refl _ _).alloc (Nat.le_refl _) _
  have x0 : wx.cell? ⟨w1.heap.size, 0, none⟩ = some (.string x.name) := by rw [← hwx]; exact World.cell?_alloc_new ..
  have x1 : wx.cell? ⟨w1.heap.size, 1, none⟩ = some (.string x.desc) := by rw [← hwx]; exact World.cell?_alloc_new ..
  have hb' := hb.trans (hbx.mono hb.size)
  have HB1 := Lib.hid (HB.out.trans (hb'.mono HB.out.size))
  have q0 := below_cell' hb' HQ.out.1
  have q1 := below_cell' hb' HQ.out.2
  have HX := Lib.hid (And.intro x0 x1)
  have HNX := Lib.hid (HN.out wx HB1.out)
  clear hb hbx hb' HM HB HN HQ p0 p1
  go_wp2_with fail
  try rw [hwx]
  clear hwx
  refine HNX.out.mono ?_
  rintro _ w2 ⟨ad2, l2, c2, rfl, hb⟩
  obtain ⟨wy, hwy⟩ : ∃ wy, (w2.alloc (.cells #[.string y.name, .string y.desc, .int .i64 y.flags, .int .i64 y.locals, .int .i64 y.stack, .slice ad2 l2 c2] 55)) = wy := ⟨_, rfl⟩
  have hby : Below w2.heap.size w2 wy := by rw [← hwy]; exact (Below.refl _ _).alloc (Nat.le_refl _) _
  have y0 : wy.cell? ⟨w2.heap.size, 0, none⟩ = some (.string y.name) := by rw [← hwy]; exact World.cell?_alloc_new ..
  have y1 : wy.cell? ⟨w2.heap.size, 1, none⟩ = some (.string y.desc) := by rw [← hwy]; exact World.cell?_alloc_new ..
  have hb' := hb.trans (hby.mono hb.size)
  have HB2 := Lib.hid (HB1.out.trans (hb'.mono HB1.out.size))
  have x0 := below_cell' hb' HX.out.1
  have x1 := below_cell' hb' HX.out.2
  rw [← hwy] at x0 x1 HB2
  clear hb hby hb' HNX HB1 HX hwy y0 y1 q0 q1
  cases h1 : (x.name.toList == y.name.toList)
  all_goals
    cases h2 : (x.desc.toList == y.desc.toList)
    all_goals
      rw [h1, h2] at HR
      go_wp2
      go_ret
      exact ⟨by rw [HR.out]; rfl, HB2.out⟩
theorem VOverrides {B bw : Nat} {w0 w : World} {m : List EntM} (h : Built B bw w0 w m) (p q : Int × Int) :
    Calls Tryz.prog 76 #[.pointer (some ⟨bw, 0, none⟩), .agg #[.int .i64 p.1, .int .i64 p.2], .agg #[.int .i64 q.1, .int .i64 q.2]] w fun e w' => e = .returned (.bool (ovR m p q).1) ∧ Below w.heap.size w w' := by
  obtain ⟨wp, hwp⟩ : ∃ wp, (w.alloc (.cells #[.int .i64 p.1, .int .i64 p.2] 38)) = wp := ⟨_, rfl⟩
  have hbp : Below w.heap.size w wp := by rw [← hwp]; exact (Below.refl _ _).alloc (Nat.le_refl _) _
  have p0 : wp.cell? ⟨w.heap.size, 0, none⟩ = some (.int .i64 p.1) := by rw [← hwp]; exact World.cell?_alloc_new ..
  have p1 : wp.cell? ⟨w.heap.size, 1, none⟩ = some (.int .i64 p.2) := by rw [← hwp]; exact World.cell?_alloc_new ..
  obtain ⟨wa, hwa⟩ : ∃ wa, (wp.alloc (.cells #[.int .i64 q.1, .int .i64 q.2] 38)) = wa := ⟨_, rfl⟩
  have hbq : Below wp.heap.size wp wa := by rw [← hwa]; exact (Below.refl _ _).alloc (Nat.le_refl _) _
  have q0 : wa.cell? ⟨wp.heap.size, 0, none⟩ = some (.int .i64 q.1) := by rw [← hwa]; exact World.cell?_alloc_new ..
  have q1 : wa.cell? ⟨wp.heap.size, 1, none⟩ = some (.int .i64 q.2) := by rw [← hwa]; exact World.cell?_alloc_new ..
  have p0 := below_cell' hbq p0
  have p1 := below_cell' hbq p1
  have hba := hbp.trans (hbq.mono hbp.size)
  have HO := Lib.hid (OOverrides (h.next hba) p q)
  have HB := Lib.hid hba
  generalize ovR m p q = R at *
  clear h hbp hbq hba
  go_enter Tryz.func76, Tryz.ntmps76
  go_wp2_with fail
  try rw [hwp]
  try rw [hwa]
  clear hwp hwa
  refine HO.out.mono ?_
  rintro _ w1 ⟨rfl, hb⟩
  have HB1 := Lib.hid (HB.out.trans (hb.mono HB.out.size))
  clear hb
  go_wp2
  go_ret
  exact ⟨rfl, HB1.out⟩

/-! ### Slots in memory -/

def slotV (s : Slt) : Value := .agg #[.int .i64 s.1.1, .int .i64 s.1.2, .int .i64 s.2.1, .int .i64 s.2.2]
def slotCs (s : Slt) : List Value := [.int .i64 s.1.1, .int .i64 s.1.2, .int .i64 s.2.1, .int .i64 s.2.2]
def cellsS (T : List Slt) : List Value := (T.map slotCs).flatten
theorem cellsS_len (T : List Slt) : (cellsS T).length = T.length * 4 := by
  unfold cellsS
  rw [flat_len (k := 4) _ (by intro cs h; obtain ⟨s, _, rfl⟩ := List.mem_map.1 h; rfl), List.length_map]
theorem cellsS_app (X Y : List Slt) : cellsS (X ++ Y) = cellsS X ++ cellsS Y := by unfold cellsS; rw [List.map_append, List.flatten_append]
theorem cellsS_get : ∀ (T : List Slt) (i : Nat) (hi : i < T.length), (cellsS T)[i * 4]? = some (.int .i64 T[i].1.1) ∧ (cellsS T)[i * 4 + 1]? = some (.int .i64 T[i].1.2) ∧ (cellsS T)[i * 4 + 2]? = some (.int .i64 T[i].2.1) ∧ (cellsS T)[i * 4 + 3]? = some (.int .i64 T[i].2.2)
  | s :: T, 0, _ => ⟨rfl, rfl, rfl, rfl⟩
  | s :: T, i + 1, h => by
    have ih := cellsS_get T i (by simpa using h)
    have e : cellsS (s :: T) = slotCs s ++ cellsS T := rfl
    rw [e]
    refine ⟨?_, ?_, ?_, ?_⟩
    · rw [List.getElem?_append_right (by simp [slotCs]; omega)]; simpa [slotCs, Nat.add_mul] using ih.1
    · rw [List.getElem?_append_right (by simp [slotCs]; omega), show (i + 1) * 4 + 1 - (slotCs s).length = i * 4 + 1 by simp [slotCs]; omega]; exact ih.2.1
    · rw [List.getElem?_append_right (by simp [slotCs]; omega), show (i + 1) * 4 + 2 - (slotCs s).length = i * 4 + 2 by simp [slotCs]; omega]; exact ih.2.2.1
    · rw [List.getElem?_append_right (by simp [slotCs]; omega), show (i + 1) * 4 + 3 - (slotCs s).length = i * 4 + 3 by simp [slotCs]; omega]; exact ih.2.2.2
theorem cellsS_set (T : List Slt) (i : Nat) (hi : i < T.length) (q : Int × Int) : ((cellsS T).set (i * 4 + 2) (.int .i64 q.1)).set (i * 4 + 3) (.int .i64 q.2) = cellsS (T.set i (T[i].1, q)) := by
  induction T generalizing i with
  | nil => cases hi
  | cons s T ih =>
    have e : ∀ s T, cellsS (s :: T) = slotCs s ++ cellsS T := fun _ _ => rfl
    cases i with
    | zero => rw [List.set_cons_zero, e, e]; rfl
    | succ i =>
      have hi' : i < T.length := by simpa using hi
      rw [List.set_cons_succ, e, e]
      simp only [List.getElem_cons_succ]
      rw [← ih i hi']
      have hl : (slotCs s).length = 4 := rfl
      rw [List.set_append_right ((i + 1) * 4 + 2) _ (by omega), List.set_append_right ((i + 1) * 4 + 3) _ (by omega), hl]
      rw [show (i + 1) * 4 + 2 - 4 = i * 4 + 2 by omega, show (i + 1) * 4 + 3 - 4 = i * 4 + 3 by omega]
end Go.Proofs.YtipinmbpdgjalaaGreatDoor.Hi
