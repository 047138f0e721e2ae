/- Interface tables: an entry; what is made of each of a list; Build: the walks. -/
import Derived.Test.YtipinmbpdgjalaaGreatDoorBb
set_option maxRecDepth 100000
set_option maxHeartbeats 4000000
set_option linter.unusedVariables false
set_option linter.unusedSimpArgs false
namespace Go.Proofs.YtipinmbpdgjalaaGreatDoor.Hi
open Go.RowKit Go.Shelf Go.Sort Bs

/-- An entry: the method; what invokeinterface selects; what invokevirtual does. -/
abbrev Ety := (Int × Int) × ((Int × Int) × Int) × ((Int × Int) × Int)
def etyCs (e : Ety) : List Value := [.int .i64 e.1.1, .int .i64 e.1.2, .int .i64 e.2.1.1.1, .int .i64 e.2.1.1.2, .int .i64 e.2.1.2, .int .i64 e.2.2.1.1, .int .i64 e.2.2.1.2, .int .i64 e.2.2.2]
def etyM (m : List EntM) (r : Int) (q : Int × Int) : Ety := (q, itfM m r q, virM m r q)
def zeroE : Value := .agg #[.int .i64 0, .int .i64 0, .int .i64 0, .int .i64 0, .int .i64 0, .int .i64 0, .int .i64 0, .int .i64 0]
theorem info_E : (Tryz.prog.info? 68).map (fun i => (i.zero, i.size, i.bytes)) = some (some zeroE, 8, 64) := by kernel_rfl
theorem ety_info : (Tryz.prog.info? 68).map (·.size) = some 8 := by kernel_rfl

/-- A block of one's own: its cells. -/
def Cells (w : World) (g : Nat) (vs : List Value) : Prop := (∀ j (h : j < vs.length), w.cell? ⟨g, j, none⟩ = some vs[j]) ∧ ∀ j, w.frozen? ⟨g, j, none⟩ = false
theorem Cells.start (w : World) (vs : List Value) (t : TypeId) : Cells (w.alloc (.cells vs.toArray t)) w.heap.size vs :=
  ⟨fun j h => by rw [World.cell?_alloc_new]; simp [h], fun j => frozen_new ..⟩
theorem Cells.out {w : World} {g : Nat} {vs : List Value} (h : Cells w g vs) : ∀ j (h : j < vs.length), w.cell? ⟨g, j, none⟩ = some vs[j] := h.1
theorem Cells.below {w w' : World} {g B : Nat} {vs : List Value} (h : Cells w g vs) (hb : Below B w w') (hg : g < B) : Cells w' g vs :=
  ⟨fun j hj => below_cell hb (h.1 j hj) hg, fun j => (World.frozen?_of_block (w := w) (hb.block g hg)).trans (h.2 j)⟩
theorem Cells.lt {w : World} {g : Nat} {v : Value} {vs : List Value} (h : Cells w g (v :: vs)) : g < w.heap.size := World.block_lt_of_cell? _ _ (h.1 0 (by simp))
theorem Cells.set {w : World} {g : Nat} {vs : List Value} (h : Cells w g vs) {i : Nat} (hi : i < vs.length) (v : Value) : Cells (w.setCell ⟨g, i, none⟩ v) g (vs.set i v) := by
  refine ⟨fun j hj => ?_, fun j => ?_⟩
  · rw [List.length_set] at hj
    rw [List.getElem_set]
    by_cases e : i = j
    · subst e
      rw [if_pos rfl]
      exact setCell_same (h.1 i hi)
    · rw [if_neg e, setCell_off (.inr e)]
      exact h.1 j hj
  · rw [World.frozen?_setCell]
    exact h.2 j
theorem Cells.off {w : World} {g : Nat} {vs : List Value} (h : Cells w g vs) {b i : Nat} (hi : b ≠ g) (v : Value) : Cells (w.setCell ⟨b, i, none⟩ v) g vs :=
  ⟨fun j hj => (setCell_off (.inl hi)).trans (h.1 j hj), fun j => (World.frozen?_setCell ..).trans (h.2 j)⟩

theorem IEntry {B bw : Nat} {w0 w : World} {m : List EntM} (h : Built B bw w0 w m) (r : Int) (q : Int × Int) :
    Calls Tryz.prog 61 #[.pointer (some ⟨bw, 0, none⟩), .int .i64 r, .agg #[.int .i64 q.1, .int .i64 q.2]] w fun e w' => e = .returned (.agg (etyCs (etyM m r q)).toArray) ∧ Below w.heap.size w w' := by
  obtain ⟨wp, hwp⟩ : ∃ wp, (w.alloc (.cells #[.int .i64 q.1, .int .i64 q.2] 38)) = wp := ⟨_, rfl⟩
  obtain ⟨wz, hwz⟩ : ∃ wz, (wp.alloc (.cells #[.int .i64 0, .int .i64 0, .int .i64 0, .int .i64 0, .int .i64 0, .int .i64 0, .int .i64 0, .int .i64 0] 68)) = wz := ⟨_, rfl⟩
  obtain ⟨wa, hwa⟩ : ∃ wa, (wz.alloc (.cells #[.int .i64 q.1, .int .i64 q.2, .int .i64 0, .int .i64 0, .int .i64 0, .int .i64 0, .int .i64 0, .int .i64 0] 68)) = wa := ⟨_, rfl⟩
  have hbp : Below w.heap.size w wp := by rw [← hwp]; exact (Below.refl _ _).alloc (Nat.le_refl _) _
  have hbz : Below wp.heap.size wp wz := by rw [← hwz]; exact (Below.refl _ _).alloc (Nat.le_refl _) _
  have hba : Below wz.heap.size wz wa := by rw [← hwa]; exact (Below.refl _ _).alloc (Nat.le_refl _) _
  have hsp : wp.heap.size = w.heap.size + 1 := by rw [← hwp]; simp
  have hsz : wz.heap.size = w.heap.size + 1 + 1 := by rw [← hwz]; simp [hsp]
  have hsa : wa.heap.size = w.heap.size + 1 + 1 + 1 := by rw [← hwa]; simp [hsz]
  have CP : Cells wa w.heap.size [.int .i64 q.1, .int .i64 q.2] := ((show Cells wp w.heap.size _ by rw [← hwp]; exact Cells.start w [.int .i64 q.1, .int .i64 q.2] _).below hbz (by omega)).below hba (by omega)
  have CZ : Cells wa (w.heap.size + 1) [.int .i64 0, .int .i64 0, .int .i64 0, .int .i64 0, .int .i64 0, .int .i64 0, .int .i64 0, .int .i64 0] := by
    have := (show Cells wz wp.heap.size _ by rw [← hwz]; exact Cells.start wp [.int .i64 0, .int .i64 0, .int .i64 0, .int .i64 0, .int .i64 0, .int .i64 0, .int .i64 0, .int .i64 0] _).below hba (by omega)
    rwa [hsp] at this
  have CX : Cells wa (w.heap.size + 1 + 1) [.int .i64 q.1, .int .i64 q.2, .int .i64 0, .int .i64 0, .int .i64 0, .int .i64 0, .int .i64 0, .int .i64 0] := by
    have := (show Cells wa wz.heap.size _ by rw [← hwa]; exact Cells.start wz [.int .i64 q.1, .int .i64 q.2, .int .i64 0, .int .i64 0, .int .i64 0, .int .i64 0, .int .i64 0, .int .i64 0] _)
    rwa [hsz] at this
  have hb : Below w.heap.size w wa := (hbp.trans (hbz.mono (by omega))).trans (hba.mono (by omega))
  have HB := Lib.hid hb
  have HC := Lib.hid (And.intro CP (And.intro CZ CX))
  have HI := Lib.hid (CInterface (h.next hb) r q)
  have HV := Lib.hid (fun wr (hr : Below w.heap.size w wr) => CVirtual (h.next hr) r q)
  have p0 : wa.cell? ⟨w.heap.size, 0, none⟩ = some (.int .i64 q.1) := CP.1 0 (by simp)
  have p1 : wa.cell? ⟨w.heap.size, 1, none⟩ = some (.int .i64 q.2) := CP.1 1 (by simp)
  have z0 : wz.cell? ⟨w.heap.size, 0, none⟩ = some (.int .i64 q.1) := below_cell' hbz (by rw [← hwp]; exact World.cell?_alloc_new ..)
  have z1 : wz.cell? ⟨w.heap.size, 1, none⟩ = some (.int .i64 q.2) := below_cell' hbz (by rw [← hwp]; exact World.cell?_alloc_new ..)
  have HSA := Lib.hid hsa
  unfold etyM
  obtain ⟨RI, hRI⟩ : ∃ R, itfM m r q = R := ⟨_, rfl⟩
  obtain ⟨RV, hRV⟩ : ∃ R, virM m r q = R := ⟨_, rfl⟩
  rw [hRI] at HI ⊢
  rw [hRV] at HV ⊢
  obtain ⟨⟨i1, i2⟩, i3⟩ := RI
  obtain ⟨⟨y1, y2⟩, y3⟩ := RV
  have HWE := Lib.hid (And.intro hwp (And.intro hwz hwa))
  clear h hbp hbz hba hsp hsz hsa CP CZ CX hb hRI hRV hwp hwz hwa z0 z1
  go_enter Tryz.func61, Tryz.ntmps61
  go_wp2_with fail
  rw [HWE.out.1, HWE.out.2.1, HWE.out.2.2]
  clear HWE
  refine HI.out.mono ?_
  rintro _ w1 ⟨rfl, hb1⟩
  have HB1 := Lib.hid (HB.out.trans (hb1.mono HB.out.size))
  have hs1 : w.heap.size + 1 + 1 + 1 ≤ w1.heap.size := by have := hb1.size; have := HSA.out; omega
  have CP1 := HC.out.1.below hb1 (by have := HSA.out; omega)
  have CZ1 := HC.out.2.1.below hb1 (by have := HSA.out; omega)
  have CX1 := HC.out.2.2.below hb1 (by have := HSA.out; omega)
  clear hb1 HC HI HB p0 p1 HSA
  have x0 : w1.cell? ⟨w.heap.size + 1 + 1, 0, none⟩ = some (.int .i64 q.1) := CX1.1 0 (by simp)
  have x2 : w1.cell? ⟨w.heap.size + 1 + 1, 2, none⟩ = some (.int .i64 0) := CX1.1 2 (by simp)
  have x3 : w1.cell? ⟨w.heap.size + 1 + 1, 3, none⟩ = some (.int .i64 0) := CX1.1 3 (by simp)
  have x4 : w1.cell? ⟨w.heap.size + 1 + 1, 4, none⟩ = some (.int .i64 0) := CX1.1 4 (by simp)
  have ft : ∀ j, w1.frozen? ⟨w.heap.size + 1 + 1, j, none⟩ = false := CX1.2
  have p0 : w1.cell? ⟨w.heap.size, 0, none⟩ = some (.int .i64 q.1) := CP1.1 0 (by simp)
  have p1 : w1.cell? ⟨w.heap.size, 1, none⟩ = some (.int .i64 q.2) := CP1.1 1 (by simp)
  have HC1 := Lib.hid (And.intro CP1 (And.intro CZ1 CX1))
  have HS1 := Lib.hid hs1
  clear CP1 CZ1 CX1 hs1
  go_wp2_with fail
  obtain ⟨w2, hw2⟩ : ∃ w2, (((w1.setCell ⟨w.heap.size + 1 + 1, 2, none⟩ (.int .i64 i1)).setCell ⟨w.heap.size + 1 + 1, 3, none⟩ (.int .i64 i2)).setCell ⟨w.heap.size + 1 + 1, 4, none⟩ (.int .i64 i3)) = w2 := ⟨_, rfl⟩
  rw [hw2]
  have hb2 : Below w.heap.size w w2 := by rw [← hw2]; exact ((HB1.out.setCell (by simp only; omega) _).setCell (by simp only; omega) _).setCell (by simp only; omega) _
  have CX2 : Cells w2 (w.heap.size + 1 + 1) [.int .i64 q.1, .int .i64 q.2, .int .i64 i1, .int .i64 i2, .int .i64 i3, .int .i64 0, .int .i64 0, .int .i64 0] := by
    rw [← hw2]
    exact ((HC1.out.2.2.set (i := 2) (by simp) _).set (i := 3) (by simp) _).set (i := 4) (by simp) _
  have CZ2 : Cells w2 (w.heap.size + 1) [.int .i64 0, .int .i64 0, .int .i64 0, .int .i64 0, .int .i64 0, .int .i64 0, .int .i64 0, .int .i64 0] := by
    rw [← hw2]
    exact ((HC1.out.2.1.off (by omega) _).off (by omega) _).off (by omega) _
  have hs2 : w.heap.size + 1 + 1 + 1 ≤ w2.heap.size := by rw [← hw2]; simpa using HS1.out
  have HB2 := Lib.hid hb2
  have HVX := Lib.hid (HV.out w2 hb2)
  clear hw2 hb2 HC1 HS1 HB1 HV x0 x2 x3 x4 ft p0 p1
  refine HVX.out.mono ?_
  rintro _ w3 ⟨rfl, hb3⟩
  have HB3 := Lib.hid (HB2.out.trans (hb3.mono HB2.out.size))
  have CX3 := CX2.below hb3 (by omega)
  have CZ3 := CZ2.below hb3 (by omega)
  have hs3 : w.heap.size + 1 + 1 + 1 ≤ w3.heap.size := by have := hb3.size; omega
  clear CX2 CZ2 hb3 hs2 HVX HB2
  have x0 : w3.cell? ⟨w.heap.size + 1 + 1, 0, none⟩ = some (.int .i64 q.1) := CX3.1 0 (by simp)
  have x1 : w3.cell? ⟨w.heap.size + 1 + 1, 1, none⟩ = some (.int .i64 q.2) := CX3.1 1 (by simp)
  have x2 : w3.cell? ⟨w.heap.size + 1 + 1, 2, none⟩ = some (.int .i64 i1) := CX3.1 2 (by simp)
  have x3 : w3.cell? ⟨w.heap.size + 1 + 1, 3, none⟩ = some (.int .i64 i2) := CX3.1 3 (by simp)
  have x4 : w3.cell? ⟨w.heap.size + 1 + 1, 4, none⟩ = some (.int .i64 i3) := CX3.1 4 (by simp)
  have x5 : w3.cell? ⟨w.heap.size + 1 + 1, 5, none⟩ = some (.int .i64 0) := CX3.1 5 (by simp)
  have x6 : w3.cell? ⟨w.heap.size + 1 + 1, 6, none⟩ = some (.int .i64 0) := CX3.1 6 (by simp)
  have x7 : w3.cell? ⟨w.heap.size + 1 + 1, 7, none⟩ = some (.int .i64 0) := CX3.1 7 (by simp)
  have ft : ∀ j, w3.frozen? ⟨w.heap.size + 1 + 1, j, none⟩ = false := CX3.2
  have z0 : w3.cell? ⟨w.heap.size + 1, 0, none⟩ = some (.int .i64 0) := CZ3.1 0 (by simp)
  have z1 : w3.cell? ⟨w.heap.size + 1, 1, none⟩ = some (.int .i64 0) := CZ3.1 1 (by simp)
  have z2 : w3.cell? ⟨w.heap.size + 1, 2, none⟩ = some (.int .i64 0) := CZ3.1 2 (by simp)
  have z3 : w3.cell? ⟨w.heap.size + 1, 3, none⟩ = some (.int .i64 0) := CZ3.1 3 (by simp)
  have z4 : w3.cell? ⟨w.heap.size + 1, 4, none⟩ = some (.int .i64 0) := CZ3.1 4 (by simp)
  have z5 : w3.cell? ⟨w.heap.size + 1, 5, none⟩ = some (.int .i64 0) := CZ3.1 5 (by simp)
  have z6 : w3.cell? ⟨w.heap.size + 1, 6, none⟩ = some (.int .i64 0) := CZ3.1 6 (by simp)
  have z7 : w3.cell? ⟨w.heap.size + 1, 7, none⟩ = some (.int .i64 0) := CZ3.1 7 (by simp)
  have fz : ∀ j, w3.frozen? ⟨w.heap.size + 1, j, none⟩ = false := CZ3.2
  have HC3 := Lib.hid CZ3
  clear CX3 CZ3
  go_wp2
  refine bodyPost_ret (results_cells rfl _ _ (w.heap.size + 1) [.int .i64 q.1, .int .i64 q.2, .int .i64 i1, .int .i64 i2, .int .i64 i3, .int .i64 y1, .int .i64 y2, .int .i64 y3] _ rfl ?cs Tryz.underlying68 rfl ety_info) rfl ⟨rfl, ?_⟩
  case cs =>
    refine Cells.out ?_
    exact ((((((((((HC3.out.off (by omega) _).off (by omega) _).off (by omega) _).set (i := 0) (by simp) _).set (i := 1) (by simp) _).set (i := 2) (by simp) _).set (i := 3) (by simp) _).set (i := 4) (by simp) _).set (i := 5) (by simp) _).set (i := 6) (by simp) _).set (i := 7) (by simp) _
  · exact ((((((((((HB3.out.setCell (by simp only; omega) _).setCell (by simp only; omega) _).setCell (by simp only; omega) _).setCell (by simp only; omega) _).setCell (by simp only; omega) _).setCell (by simp only; omega) _).setCell (by simp only; omega) _).setCell (by simp only; omega) _).setCell (by simp only; omega) _).setCell (by simp only; omega) _).setCell (by simp only; omega) _
/-- The closure over an entry. -/
theorem IBuild1 {B bw : Nat} {w0 w : World} {m : List EntM} (h : Built B bw w0 w m) {qw qr : Nat} (r : Int) (q : Int × Int) (hw : w.cell? ⟨qw, 0, none⟩ = some (.pointer (some ⟨bw, 0, none⟩))) (hr : w.cell? ⟨qr, 0, none⟩ = some (.int .i64 r)) :
    Calls Tryz.prog 60 (#[.agg #[.int .i64 q.1, .int .i64 q.2]] ++ #[.pointer (some ⟨qw, 0, none⟩), .pointer (some ⟨qr, 0, none⟩)]) w fun e w' => e = .returned (.agg (etyCs (etyM m r q)).toArray) ∧ Below w.heap.size w w' := by
  show Calls Tryz.prog 60 #[.agg #[.int .i64 q.1, .int .i64 q.2], .pointer (some ⟨qw, 0, none⟩), .pointer (some ⟨qr, 0, none⟩)] w _
  obtain ⟨wp, hwp⟩ : ∃ wp, (w.alloc (.cells #[.int .i64 q.1, .int .i64 q.2] 38)) = wp := ⟨_, rfl⟩
  obtain ⟨wz, hwz⟩ : ∃ wz, (wp.alloc (.cells #[.int .i64 0, .int .i64 0, .int .i64 0, .int .i64 0, .int .i64 0, .int .i64 0, .int .i64 0, .int .i64 0] 68)) = wz := ⟨_, rfl⟩
  have hbp : Below w.heap.size w wp := by rw [← hwp]; exact (Below.refl _ _).alloc (Nat.le_refl _) _
  have hbz : Below wp.heap.size wp wz := by rw [← hwz]; exact (Below.refl _ _).alloc (Nat.le_refl _) _
  have hsp : wp.heap.size = w.heap.size + 1 := by rw [← hwp]; simp
  have hsz : wz.heap.size = w.heap.size + 1 + 1 := by rw [← hwz]; simp [hsp]
  have CZ : Cells wz (w.heap.size + 1) [.int .i64 0, .int .i64 0, .int .i64 0, .int .i64 0, .int .i64 0, .int .i64 0, .int .i64 0, .int .i64 0] := by
    have := (show Cells wz wp.heap.size _ by rw [← hwz]; exact Cells.start wp [.int .i64 0, .int .i64 0, .int .i64 0, .int .i64 0, .int .i64 0, .int .i64 0, .int .i64 0, .int .i64 0] _)
    rwa [hsp] at this
  have hb : Below w.heap.size w wz := hbp.trans (hbz.mono (by omega))
  have HB := Lib.hid hb
  have HC := Lib.hid CZ
  have HE := Lib.hid (IEntry (h.next hb) r q)
  have hqw : qw < w.heap.size := World.block_lt_of_cell? _ _ hw
  have hqr : qr < w.heap.size := World.block_lt_of_cell? _ _ hr
  have HSZ := Lib.hid hsz
  have HWE := Lib.hid (And.intro hwp hwz)
  unfold etyM at HE ⊢
  obtain ⟨⟨⟨i1, i2⟩, i3⟩, hRI⟩ : ∃ R, itfM m r q = R := ⟨_, rfl⟩
  obtain ⟨⟨⟨y1, y2⟩, y3⟩, hRV⟩ : ∃ R, virM m r q = R := ⟨_, rfl⟩
  rw [hRI, hRV] at HE ⊢
  clear h hbp hbz hsp hsz CZ hb hRI hRV hwp hwz
  go_enter Tryz.func60, Tryz.ntmps60
  go_wp2_with fail
  rw [HWE.out.1, HWE.out.2]
  clear HWE
  refine HE.out.mono ?_
  rintro _ w3 ⟨rfl, hb3⟩
  rw [show (etyCs (q, ((i1, i2), i3), (y1, y2), y3)).toArray = #[.int .i64 q.1, .int .i64 q.2, .int .i64 i1, .int .i64 i2, .int .i64 i3, .int .i64 y1, .int .i64 y2, .int .i64 y3] from rfl]
  have HB3 := Lib.hid (HB.out.trans (hb3.mono HB.out.size))
  have CZ3 := HC.out.below hb3 (by have := HSZ.out; omega)
  have hs3 : w.heap.size + 1 + 1 ≤ w3.heap.size := by have := hb3.size; have := HSZ.out; omega
  clear hb3 HE HB HC HSZ
  have z0 : w3.cell? ⟨w.heap.size + 1, 0, none⟩ = some (.int .i64 0) := CZ3.1 0 (by simp)
  have z1 : w3.cell? ⟨w.heap.size + 1, 1, none⟩ = some (.int .i64 0) := CZ3.1 1 (by simp)
  have z2 : w3.cell? ⟨w.heap.size + 1, 2, none⟩ = some (.int .i64 0) := CZ3.1 2 (by simp)
  have z3 : w3.cell? ⟨w.heap.size + 1, 3, none⟩ = some (.int .i64 0) := CZ3.1 3 (by simp)
  have z4 : w3.cell? ⟨w.heap.size + 1, 4, none⟩ = some (.int .i64 0) := CZ3.1 4 (by simp)
  have z5 : w3.cell? ⟨w.heap.size + 1, 5, none⟩ = some (.int .i64 0) := CZ3.1 5 (by simp)
  have z6 : w3.cell? ⟨w.heap.size + 1, 6, none⟩ = some (.int .i64 0) := CZ3.1 6 (by simp)
  have z7 : w3.cell? ⟨w.heap.size + 1, 7, none⟩ = some (.int .i64 0) := CZ3.1 7 (by simp)
  have fz : ∀ j, w3.frozen? ⟨w.heap.size + 1, j, none⟩ = false := CZ3.2
  have HC3 := Lib.hid CZ3
  clear CZ3
  go_wp2
  refine bodyPost_ret (results_cells rfl _ _ (w.heap.size + 1) [.int .i64 q.1, .int .i64 q.2, .int .i64 i1, .int .i64 i2, .int .i64 i3, .int .i64 y1, .int .i64 y2, .int .i64 y3] _ rfl ?cs Tryz.underlying68 rfl ety_info) rfl ⟨rfl, ?_⟩
  case cs =>
    refine Cells.out ?_
    exact (((((((HC3.out.set (i := 0) (by simp) _).set (i := 1) (by simp) _).set (i := 2) (by simp) _).set (i := 3) (by simp) _).set (i := 4) (by simp) _).set (i := 5) (by simp) _).set (i := 6) (by simp) _).set (i := 7) (by simp) _
  · exact (((((((HB3.out.setCell (by simp only; omega) _).setCell (by simp only; omega) _).setCell (by simp only; omega) _).setCell (by simp only; omega) _).setCell (by simp only; omega) _).setCell (by simp only; omega) _).setCell (by simp only; omega) _).setCell (by simp only; omega) _
end Go.Proofs.YtipinmbpdgjalaaGreatDoor.Hi
