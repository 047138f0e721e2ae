/- Types in a world. -/
import Derived.Test.YtmpphhkbjmjomaaGreatDoorMK
set_option maxRecDepth 100000
set_option maxHeartbeats 1000000
set_option linter.unusedVariables false
set_option linter.unusedSimpArgs false
namespace Go.Proofs.YtmpphhkbjmjomaaGreatDoor.Hi
open Go.RowKit Bs

/-- A type: dimensions, name. -/
structure TyM where
  dims : Int
  name : ByteArray
abbrev TyM.val (t : TyM) : Value := .agg #[.int .i64 t.dims, .string t.name]
def tyOk (t : TyM) : Bool := decide (0 ≤ t.dims) && decide (t.dims ≤ 255) && (t.name.toList.isEmpty || Lf.validB t.name.data.toList)
def checkE (t : TyM) : Int := if tyOk t = true then 0 else 1
def isIntM (t : TyM) : Bool := (t.dims == 0) && t.name.toList.isEmpty
def loadedE (m : List EntM) (t : TyM) : Int := if tyOk t = true then (if (!t.name.toList.isEmpty && (nameIx m t.name).isNone) = true then 20 else 0) else 1
def holderM (m : List EntM) (t : TyM) : Int × Int := if loadedE m t = 0 then (if isIntM t = true then (0, 2) else if 0 < t.dims then (0, 0) else byNameM m t.name) else (0, loadedE m t)

theorem TCheck (t : TyM) (w : World) (hs : t.name.size ≤ maxLen) (he : Lf.Env w) :
    Calls Tryz.prog 47 #[t.val] w fun e w' => e = .returned (.int .i64 (checkE t)) ∧ Below w.heap.size w w' := by
  have hb : Below w.heap.size w (w.alloc (.cells #[.int .i64 t.dims, .string t.name] 34)) := (Below.refl _ _).alloc (Nat.le_refl _) _
  have HB := Lib.hid hb
  have HV := Lib.hid (fun wr (hr : Below w.heap.size w wr) => Lf.Valid t.name wr hs (he.below hr))
  have HC : Hid (checkE t = if (decide (0 ≤ t.dims) && decide (t.dims ≤ 255) && (t.name.toList.isEmpty || Lf.validB t.name.data.toList)) = true then 0 else 1) := Lib.hid rfl
  obtain ⟨R, hR⟩ : ∃ R, checkE t = R := ⟨_, rfl⟩
  rw [hR] at HC ⊢
  unfold TyM.val
  clear hb he hR
  generalize t.dims = dm at *
  generalize t.name = nm at *
  by_cases h1 : dm < 0
  · have e1 : decide (dm < 0) = true := decide_eq_true h1
    have G : Hid (R = 1) := Lib.hid (by rw [HC.out, decide_eq_false (by omega)]; rfl)
    clear HC HV
    go_enter Tryz.func47, Tryz.ntmps47
    go_wp2
    go_ret
    exact ⟨by rw [G.out]; rfl, HB.out⟩
  have e1 : decide (dm < 0) = false := decide_eq_false h1
  by_cases h2 : 255 < dm
  · have e2 : decide (255 < dm) = true := decide_eq_true h2
    have G : Hid (R = 1) := Lib.hid (by rw [HC.out, decide_eq_false (p := dm ≤ 255) (by omega), Bool.and_false]; rfl)
    clear HC HV
    go_enter Tryz.func47, Tryz.ntmps47
    go_wp2
    go_ret
    exact ⟨by rw [G.out]; rfl, HB.out⟩
  have e2 : decide (255 < dm) = false := decide_eq_false h2
  have HC2 : Hid (R = if (nm.toList.isEmpty || Lf.validB nm.data.toList) = true then 0 else 1) := Lib.hid (by rw [HC.out, decide_eq_true (by omega), decide_eq_true (by omega)]; rfl)
  clear HC
  cases hE : nm.toList.isEmpty
  · have hE' : (!nm.toList.isEmpty) = true := by rw [hE]; rfl
    rw [hE] at HC2
    generalize Lf.validB nm.data.toList = v at HV HC2
    go_enter Tryz.func47, Tryz.ntmps47
    go_wp2_with fail
    refine (HV.out _ HB.out).mono ?_
    rintro e w1 ⟨rfl, hb1⟩
    have HB1 : Hid (Below w.heap.size w w1) := Lib.hid (HB.out.trans (hb1.mono (by simp)))
    clear hb1 HV
    cases v
    · have G : Hid (R = 1) := Lib.hid (by rw [HC2.out]; rfl)
      go_wp2
      go_ret
      exact ⟨by rw [G.out]; rfl, HB1.out⟩
    · have G : Hid (R = 0) := Lib.hid (by rw [HC2.out]; rfl)
      go_wp2
      go_ret
      exact ⟨by rw [G.out]; rfl, HB1.out⟩
  · have hE' : (!nm.toList.isEmpty) = false := by rw [hE]; rfl
    have G : Hid (R = 0) := Lib.hid (by rw [HC2.out, hE]; rfl)
    clear HV HC2
    go_enter Tryz.func47, Tryz.ntmps47
    go_wp2
    go_ret
    exact ⟨by rw [G.out]; rfl, HB.out⟩

theorem byName_cases (m : List EntM) (s : ByteArray) : ((nameIx m s).isNone = false ∧ ∃ i : Nat, byNameM m s = ((i : Int), 0)) ∨ ((nameIx m s).isNone = true ∧ byNameM m s = (0, 6)) := by
  unfold byNameM
  cases nameIx m s with
  | none => exact .inr ⟨rfl, rfl⟩
  | some i => exact .inl ⟨rfl, i, rfl⟩

theorem Loaded {B bw : Nat} {w0 w : World} {m : List EntM} (h : Built B bw w0 w m) (t : TyM) (hs : t.name.size ≤ maxLen) (he : Lf.Env w) :
    Calls Tryz.prog 24 #[.pointer (some ⟨bw, 0, none⟩), t.val] w fun e w' => e = .returned (.int .i64 (loadedE m t)) ∧ Below w.heap.size w w' := by
  have hb : Below w.heap.size w (w.alloc (.cells #[.int .i64 t.dims, .string t.name] 34)) := (Below.refl _ _).alloc (Nat.le_refl _) _
  have HB := Lib.hid hb
  have HT := Lib.hid (TCheck t _ hs (he.below hb))
  have HN := Lib.hid (fun wr (hr : Below w.heap.size w wr) => ByName (h.next hr).hw t.name hs)
  have HL : Hid (loadedE m t = if tyOk t = true then (if (!t.name.toList.isEmpty && (nameIx m t.name).isNone) = true then 20 else 0) else 1) := Lib.hid rfl
  have HC : Hid (checkE t = if tyOk t = true then 0 else 1) := Lib.hid rfl
  have HQ := Lib.hid (byName_cases m t.name)
  have q1 : (w.alloc (.cells #[.int .i64 t.dims, .string t.name] 34)).cell? ⟨w.heap.size, 1, none⟩ = some (.string t.name) := World.cell?_alloc_new ..
  obtain ⟨R, hR⟩ : ∃ R, loadedE m t = R := ⟨_, rfl⟩
  rw [hR] at HL ⊢
  unfold TyM.val at *
  clear hb he hR h
  cases hk : tyOk t
  · rw [hk] at HC HL
    rw [HC.out] at HT
    have G : Hid (R = 1) := Lib.hid (by rw [HL.out]; rfl)
    clear HC HL HN HQ
    go_enter Tryz.func24, Tryz.ntmps24
    go_wp2_with fail
    refine HT.out.mono ?_
    rintro e w1 ⟨rfl, hb1⟩
    have HB1 : Hid (Below w.heap.size w w1) := Lib.hid (HB.out.trans (hb1.mono (by simp)))
    clear hb1 HT
    go_wp2
    go_ret
    exact ⟨by rw [G.out]; rfl, HB1.out⟩
  · rw [hk] at HC HL
    rw [HC.out] at HT
    have HL2 : Hid (R = if (!t.name.toList.isEmpty && (nameIx m t.name).isNone) = true then 20 else 0) := HL
    clear HC HL
    generalize t.dims = dm at *
    generalize t.name = nm at *
    go_enter Tryz.func24, Tryz.ntmps24
    go_wp2_with fail
    refine HT.out.mono ?_
    rintro e w1 ⟨rfl, hb1⟩
    have q1' := below_cell' hb1 q1
    have HB1 : Hid (Below w.heap.size w w1) := Lib.hid (HB.out.trans (hb1.mono (by simp)))
    have HX := Lib.hid (HN.out w1 HB1.out)
    clear hb1 HT HN q1
    rcases HQ.out with ⟨hn, i, hi⟩ | ⟨hn, hi⟩
    · rw [hi] at HX
      have G : Hid (R = 0) := Lib.hid (by rw [HL2.out, hn, Bool.and_false]; rfl)
      clear HL2 HQ
      cases hE : nm.toList.isEmpty
      · have hE' : (!nm.toList.isEmpty) = true := by rw [hE]; rfl
        go_wp2_with fail
        refine HX.out.mono ?_
        rintro e w2 ⟨rfl, rfl⟩
        go_wp2
        go_ret
        exact ⟨by rw [G.out]; rfl, HB1.out⟩
      · have hE' : (!nm.toList.isEmpty) = false := by rw [hE]; rfl
        go_wp2_with fail
        refine HX.out.mono ?_
        rintro e w2 ⟨rfl, rfl⟩
        go_wp2
        go_ret
        exact ⟨by rw [G.out]; rfl, HB1.out⟩
    · rw [hi] at HX
      clear HQ
      cases hE : nm.toList.isEmpty
      · have hE' : (!nm.toList.isEmpty) = true := by rw [hE]; rfl
        have G : Hid (R = 20) := Lib.hid (by rw [HL2.out, hn, hE]; rfl)
        go_wp2_with fail
        refine HX.out.mono ?_
        rintro e w2 ⟨rfl, rfl⟩
        go_wp2
        go_ret
        exact ⟨by rw [G.out]; rfl, HB1.out⟩
      · have hE' : (!nm.toList.isEmpty) = false := by rw [hE]; rfl
        have G : Hid (R = 0) := Lib.hid (by rw [HL2.out, hE]; rfl)
        go_wp2_with fail
        refine HX.out.mono ?_
        rintro e w2 ⟨rfl, rfl⟩
        go_wp2
        go_ret
        exact ⟨by rw [G.out]; rfl, HB1.out⟩

theorem IsInt (t : TyM) (w : World) :
    Calls Tryz.prog 27 #[t.val] w fun e w' => e = .returned (.bool (isIntM t)) ∧ Below w.heap.size w w' := by
  have hb : Below w.heap.size w (w.alloc (.cells #[.int .i64 t.dims, .string t.name] 34)) := (Below.refl _ _).alloc (Nat.le_refl _) _
  have HB := Lib.hid hb
  have HI : Hid (isIntM t = ((t.dims == 0) && t.name.toList.isEmpty)) := Lib.hid rfl
  obtain ⟨R, hR⟩ : ∃ R, isIntM t = R := ⟨_, rfl⟩
  rw [hR] at HI ⊢
  unfold TyM.val
  clear hb hR
  generalize t.dims = dm at *
  generalize t.name = nm at *
  by_cases h1 : dm = 0
  · subst h1
    by_cases h2 : nm.toList = []
    · have G : Hid (R = true) := Lib.hid (by rw [HI.out, h2]; rfl)
      go_enter Tryz.func27, Tryz.ntmps27
      go_wp2
      go_ret
      exact ⟨by rw [G.out]; rfl, HB.out⟩
    · have G : Hid (R = false) := Lib.hid (by rw [HI.out]; simp [h2])
      go_enter Tryz.func27, Tryz.ntmps27
      go_wp2
      go_ret
      exact ⟨by rw [G.out]; rfl, HB.out⟩
  · have G : Hid (R = false) := Lib.hid (by rw [HI.out]; simp [h1])
    go_enter Tryz.func27, Tryz.ntmps27
    go_wp2
    go_ret
    exact ⟨by rw [G.out]; rfl, HB.out⟩

/-- A class type's holder. -/
theorem Holder_class {B bw : Nat} {w0 w : World} {m : List EntM} (h : Built B bw w0 w m) (t : TyM) (hs : t.name.size ≤ maxLen) (he : Lf.Env w) (hl : loadedE m t = 0) (hd : t.dims = 0) (hE : t.name.toList.isEmpty = false) :
    Calls Tryz.prog 12 #[.pointer (some ⟨bw, 0, none⟩), t.val] w fun e w' => e = .returned (.tuple #[.int .i64 (byNameM m t.name).1, .int .i64 (byNameM m t.name).2]) ∧ Below w.heap.size w w' := by
  have hb : Below w.heap.size w (w.alloc (.cells #[.int .i64 t.dims, .string t.name] 34)) := (Below.refl _ _).alloc (Nat.le_refl _) _
  have HB := Lib.hid hb
  have HT := Lib.hid (Loaded (h.next hb) t hs (he.below hb))
  rw [hl] at HT
  have HI := Lib.hid (fun wr => IsInt t wr)
  have hi : isIntM t = false := by unfold isIntM; rw [hE, Bool.and_false]
  rw [hi] at HI
  have HN := Lib.hid (fun wr (hr : Below w.heap.size w wr) => ByName (h.next hr).hw t.name hs)
  have q0 : (w.alloc (.cells #[.int .i64 t.dims, .string t.name] 34)).cell? ⟨w.heap.size, 0, none⟩ = some (.int .i64 t.dims) := World.cell?_alloc_new ..
  have q1 : (w.alloc (.cells #[.int .i64 t.dims, .string t.name] 34)).cell? ⟨w.heap.size, 1, none⟩ = some (.string t.name) := World.cell?_alloc_new ..
  unfold TyM.val at *
  rw [hd] at *
  clear hb he h hl hi hd hE
  generalize t.name = nm at *
  go_enter Tryz.func12, Tryz.ntmps12
  go_wp2_with fail
  refine HT.out.mono ?_
  rintro e w1 ⟨rfl, hb1⟩
  have p0 := below_cell' hb1 q0
  have p1 := below_cell' hb1 q1
  have HB1 : Hid (Below w.heap.size w w1) := Lib.hid (HB.out.trans (hb1.mono (by simp)))
  clear hb1 HT q0 q1
  go_wp2_with fail
  refine (HI.out _).mono ?_
  rintro e w2 ⟨rfl, hb2⟩
  have q0 := below_cell' hb2 p0
  have q1 := below_cell' hb2 p1
  have HB2 : Hid (Below w.heap.size w w2) := Lib.hid (HB1.out.trans (hb2.mono HB1.out.size))
  have HX := Lib.hid (HN.out w2 HB2.out)
  clear hb2 HI p0 p1 HN
  go_wp2_with fail
  refine HX.out.mono ?_
  rintro e w3 ⟨rfl, rfl⟩
  go_wp2
  go_ret2
  exact ⟨rfl, HB2.out⟩
end Go.Proofs.YtmpphhkbjmjomaaGreatDoor.Hi
