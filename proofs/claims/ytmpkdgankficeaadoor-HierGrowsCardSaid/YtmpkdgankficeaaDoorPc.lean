/- Reading types: a text's type. -/
import Derived.Test.YtmpkdgankficeaaDoorPb
set_option maxRecDepth 100000
set_option maxHeartbeats 1000000
set_option linter.unusedVariables false
set_option linter.unusedSimpArgs false
namespace Go.Proofs.YtmpkdgankficeaaDoor.Pr
open Go.RowKit Bs

/-- A type (dimensions, name) and an error. -/
structure TyR where
  dims : Int
  name : List UInt8
  err : Int
  deriving DecidableEq
def tail (l : List UInt8) : OneR := oneTail (l.drop (brackets l))
/-- The type that a text writes. -/
def parseM (l : List UInt8) : TyR :=
  if 2000 < l.length then ⟨0, [], 5⟩ else if (!(tail l).ok || !(tail l).rest.isEmpty) = true then ⟨0, [], 4⟩ else if 255 < brackets l then ⟨0, [], 5⟩ else ⟨brackets l, (tail l).name, 0⟩

theorem Cur.start (w : World) (l : List UInt8) (t : TypeId) : Cur (w.alloc (.cells #[.string (ba l), .bool false] t)) w.heap.size l false :=
  ⟨by rw [World.cell?_alloc_new]; rfl, by rw [World.cell?_alloc_new]; rfl, fun j => World.frozen?_alloc_new ..⟩
theorem env_alloc {w : World} (h : Lf.Env w) (o : Obj) : Lf.Env (w.alloc o) := h.below ((Below.refl _ _).alloc (Nat.le_refl _) _)
theorem env_pos {w : World} (h : Lf.Env w) : w.heap.size ≠ 0 := by
  obtain ⟨m, hm⟩ := h
  have := World.block_lt_of_cell? _ _ hm
  omega
theorem below_cur {w w' : World} {o : Obj} (h : Chg (fun k => k = w.heap.size) (w.alloc o) w') : Below w.heap.size w w' :=
  ((Below.refl _ _).alloc (Nat.le_refl _) o).trans (h.below (by simp) fun k hk e => by omega)

/-- A type's two cells in the result's block, among what is new. -/
structure Res (w wr : World) (d : Int) (nm : ByteArray) : Prop where
  dims : wr.cell? ⟨w.heap.size, 0, none⟩ = some (.int .i64 d)
  name : wr.cell? ⟨w.heap.size, 1, none⟩ = some (.string nm)
  thaw : ∀ j, wr.frozen? ⟨w.heap.size, j, none⟩ = false
  below : Below w.heap.size w wr
theorem Res.start (w : World) (t : TypeId) : Res w (w.alloc (.cells #[.int .i64 0, .string ⟨#[]⟩] t)) 0 ⟨#[]⟩ :=
  ⟨by rw [World.cell?_alloc_new]; rfl, by rw [World.cell?_alloc_new]; rfl, fun j => World.frozen?_alloc_new .., (Below.refl _ _).alloc (Nat.le_refl _) _⟩
theorem Res.lt {w wr : World} {d : Int} {nm : ByteArray} (h : Res w wr d nm) : w.heap.size < wr.heap.size := World.block_lt_of_cell? _ _ h.dims
theorem Res.chg {w wr w' : World} {d : Int} {nm : ByteArray} (h : Res w wr d nm) {b : Nat} (hc : Chg (fun k => k = b) wr w') (hb : w.heap.size < b) : Res w w' d nm :=
  ⟨hc.cell_eq h.dims (by simp; omega), hc.cell_eq h.name (by simp; omega), fun j => (hc.frozen (a := ⟨w.heap.size, j, none⟩) h.lt (by simp; omega)).trans (h.thaw j), h.below.trans (hc.below h.below.size fun k hk e => by omega)⟩
theorem Res.alloc {w wr : World} {d : Int} {nm : ByteArray} (h : Res w wr d nm) (o : Obj) : Res w (wr.alloc o) d nm := h.chg (b := w.heap.size + 1) ((Chg.refl _ _).alloc o) (by omega)
theorem Res.drew {w wr : World} {d : Int} {nm : ByteArray} (h : Res w wr d nm) : Res w wr.drew d nm := ⟨h.dims, h.name, h.thaw, h.below.drew⟩
theorem Res.drewN {w wr : World} {d : Int} {nm : ByteArray} (h : Res w wr d nm) (n : Nat) : Res w (wr.drewN n) d nm := ⟨h.dims, h.name, h.thaw, ⟨h.below.os, h.below.tape, h.below.output, h.below.size, h.below.block⟩⟩
theorem Res.set {w wr : World} {d : Int} {nm : ByteArray} (h : Res w wr d nm) (x : Int) (s : ByteArray) : Res w ((wr.setCell ⟨w.heap.size, 0, none⟩ (.int .i64 x)).setCell ⟨w.heap.size, 1, none⟩ (.string s)) x s :=
  ⟨by rw [setCell_off (by omega)]; exact setCell_same h.dims, setCell_same (by rw [setCell_off (by omega)]; exact h.name), fun j => by rw [World.frozen?_setCell, World.frozen?_setCell]; exact h.thaw j, (h.below.setCell (Nat.le_refl _) _).setCell (Nat.le_refl _) _⟩
theorem Res.below' {w wr w' : World} {d : Int} {nm : ByteArray} (h : Res w wr d nm) (hb : Below wr.heap.size wr w') : Res w w' d nm := h.chg (b := w.heap.size + 1) (Chg.of_below hb) (by omega)

theorem Parse (l : List UInt8) (w : World) (hl : l.length ≤ maxLen) (he : Lf.Env w) :
    Calls Tryd.prog 99 #[.string (ba l)] w fun e w' => e = .returned (.tuple #[.agg #[.int .i64 (parseM l).dims, .string (ba (parseM l).name)], .int .i64 (parseM l).err]) ∧ Below w.heap.size w w' := by
  unfold maxLen at hl
  have hz := ba_size l
  have HR := Lib.hid (Res.start w 106)
  have HE := Lib.hid (env_alloc he (.cells #[.int .i64 0, .string ⟨#[]⟩] 106))
  by_cases hb : 2000 < l.length
  · have hd : decide ((2000 : Int) < (l.length : Int)) = true := by simp; omega
    have F : Hid (parseM l = ⟨0, [], 5⟩) := Lib.hid (if_pos hb)
    go_enter Tryd.func99, Tryd.ntmps99
    go_wp2_with fail
    have HF := HR.out
    refine bodyPost_ret (Hi.results_cells_tmp rfl _ _ w.heap.size [.int .i64 0, .string ⟨#[]⟩] _ rfl (two HF.dims HF.name) Tryd.underlying106 rfl type_info) rfl ⟨by rw [F.out]; rfl, HF.below⟩
  · have hd : decide ((2000 : Int) < (l.length : Int)) = false := by simp; omega
    have HONE := Lib.hid (one (w.heap.size + 1) l false ((w.alloc (.cells #[.int .i64 0, .string ⟨#[]⟩] 106)).alloc (.cells #[.string (ba l), .bool false] 125)) (by have := Cur.start (w.alloc (.cells #[.int .i64 0, .string ⟨#[]⟩] 106)) l 125; simpa using this) (by omega) (env_alloc HE.out _) (by omega))
    have HP : Hid (parseM l = if (!(tail l).ok || !(tail l).rest.isEmpty) = true then ⟨0, [], 4⟩ else if 255 < brackets l then ⟨0, [], 5⟩ else ⟨brackets l, (tail l).name, 0⟩) := Lib.hid (if_neg hb)
    have HB : Hid (brackets l ≤ 2000) := Lib.hid (by have := brackets_le l; omega)
    go_enter Tryd.func99, Tryd.ntmps99
    go_wp2_with fail
    refine HONE.out.mono ?_
    rintro e w1 ⟨rfl, hcur, hchg⟩
    have HR1 := Lib.hid ((HR.out.alloc (.cells #[.string (ba l), .bool false] 125)).chg hchg (by omega))
    change Cur w1 (w.heap.size + 1) (tail l).rest (false || decide (255 < (brackets l : Int))) at hcur
    have e1 : (oneTail (l.drop (brackets l))) = tail l := rfl
    rw [e1]
    clear hchg HR HE e1
    generalize tail l = t at hcur HP
    generalize brackets l = d at hcur HP HB
    have hdd := HB.out
    have k3 := HR1.out.dims
    have k4 := HR1.out.name
    have k5 := HR1.out.thaw 0
    have k6 := HR1.out.thaw 1
    have k7 := hcur.rest
    have k8 := HR1.out.lt
    have k9 := hcur.lt
    have k10 := hcur.wide
    clear hcur
    obtain ⟨nm, ok, rest⟩ := t
    have HRA := Lib.hid (HR1.out.alloc (.cells #[.int .i64 d, .string (ba nm)] 106))
    obtain ⟨x, hx⟩ : ∃ x, (false || decide (255 < (d : Int))) = x := ⟨_, rfl⟩
    have HXE := Lib.hid hx
    rw [hx] at k10
    clear hx HRA
    cases ok
    · have F : Hid (parseM l = ⟨0, [], 4⟩) := Lib.hid (HP.out.trans (if_pos (by rfl)))
      go_wp2
      have HF := (HR1.out.set 0 ⟨#[]⟩).alloc (.cells #[.int .i64 d, .string (ba nm)] 106)
      exact bodyPost_ret (Hi.results_cells_tmp rfl _ _ w.heap.size [.int .i64 0, .string ⟨#[]⟩] _ rfl (two HF.dims HF.name) Tryd.underlying106 rfl type_info) rfl ⟨by rw [F.out]; rfl, HF.below⟩
    · cases hrr : rest.isEmpty
      · have e1 : (ba rest).toList.isEmpty = false := by rw [ba_toList]; exact hrr
        have e2 : (!(ba rest).toList.isEmpty) = true := by rw [e1]; rfl
        have F : Hid (parseM l = ⟨0, [], 4⟩) := Lib.hid (HP.out.trans (if_pos (by show (!true || !rest.isEmpty) = true; rw [hrr]; rfl)))
        go_wp2
        have HF := (HR1.out.set 0 ⟨#[]⟩).alloc (.cells #[.int .i64 d, .string (ba nm)] 106)
        exact bodyPost_ret (Hi.results_cells_tmp rfl _ _ w.heap.size [.int .i64 0, .string ⟨#[]⟩] _ rfl (two HF.dims HF.name) Tryd.underlying106 rfl type_info) rfl ⟨by rw [F.out]; rfl, HF.below⟩
      · have e1 : (ba rest).toList.isEmpty = true := by rw [ba_toList]; exact hrr
        have e2 : (!(ba rest).toList.isEmpty) = false := by rw [e1]; rfl
        have hno : ¬((!true || !rest.isEmpty) = true) := by rw [hrr]; simp
        cases x
        · have hd2 : ¬(255 < d) := by have := HXE.out; simp at this; omega
          have F : Hid (parseM l = ⟨d, nm, 0⟩) := Lib.hid ((HP.out.trans (if_neg hno)).trans (if_neg hd2))
          go_wp2
          have HF := (HR1.out.set d (ba nm)).alloc (.cells #[.int .i64 d, .string (ba nm)] 106)
          exact bodyPost_ret (Hi.results_cells_tmp rfl _ _ w.heap.size [.int .i64 d, .string (ba nm)] _ rfl (two HF.dims HF.name) Tryd.underlying106 rfl type_info) rfl ⟨by rw [F.out]; rfl, HF.below⟩
        · have hd2 : 255 < d := by have := HXE.out; simp at this; omega
          have F : Hid (parseM l = ⟨0, [], 5⟩) := Lib.hid ((HP.out.trans (if_neg hno)).trans (if_pos hd2))
          go_wp2
          have HF := (HR1.out.set 0 ⟨#[]⟩).alloc (.cells #[.int .i64 d, .string (ba nm)] 106)
          exact bodyPost_ret (Hi.results_cells_tmp rfl _ _ w.heap.size [.int .i64 0, .string ⟨#[]⟩] _ rfl (two HF.dims HF.name) Tryd.underlying106 rfl type_info) rfl ⟨by rw [F.out]; rfl, HF.below⟩
end Go.Proofs.YtmpkdgankficeaaDoor.Pr
