/- Reading types: a reference's text. -/
import Derived.Test.YtmpkdgankficeaaDoorPc
set_option maxRecDepth 100000
set_option maxHeartbeats 1000000
set_option linter.unusedVariables false
set_option linter.unusedSimpArgs false
namespace Go.Proofs.YtmpkdgankficeaaDoor.Pr
open Go.RowKit Bs

/-- The class or array type that a reference's text writes. -/
def refTyM (l : List UInt8) : TyR := if l.head? = some 91 then parseM l else if 2000 < l.length then ⟨0, [], 5⟩ else if Lf.validB l = true then ⟨0, l, 0⟩ else ⟨0, [], 4⟩

theorem hasPrefix_one (l : List UInt8) (c : UInt8) : Lib.hasPrefix l [c] = decide (l.head? = some c) := by
  cases l with
  | nil => simp [Lib.hasPrefix]
  | cons x r =>
    show (c == x && List.isPrefixOf [] r) = _
    rw [Bool.eq_iff_iff]
    simp
    exact eq_comm

theorem HasPrefix_ba (l : List UInt8) (w : World) : Calls Tryd.prog 105 #[.string (ba l), .string ⟨#[91]⟩] w fun e w' => e = .returned (.bool (decide (l.head? = some 91))) ∧ w = w' := by
  refine (Tryd.strings_HasPrefix (ba l) ⟨#[91]⟩ w).mono ?_
  rintro e w' ⟨rfl, rfl⟩
  rw [ba_list]
  exact ⟨by rw [← hasPrefix_one], rfl⟩

theorem ParseRef (l : List UInt8) (w : World) (hl : l.length ≤ maxLen) (he : Lf.Env w) :
    Calls Tryd.prog 98 #[.string (ba l)] w fun e w' => e = .returned (.tuple #[.agg #[.int .i64 (refTyM l).dims, .string (ba (refTyM l).name)], .int .i64 (refTyM l).err]) ∧ Below w.heap.size w w' := by
  have HL := Lib.hid hl
  unfold maxLen at hl
  have hz := ba_size l
  have HR := Lib.hid (Res.start w 106)
  have HE := Lib.hid (env_alloc he (.cells #[.int .i64 0, .string ⟨#[]⟩] 106))
  have h3 := HR.out.dims
  have h4 := HR.out.name
  by_cases hp : l.head? = some 91
  · have hd : decide (l.head? = some 91) = true := decide_eq_true hp
    have F : Hid (refTyM l = parseM l) := Lib.hid (if_pos hp)
    have HX := Lib.hid (Parse l _ HL.out HE.out)
    generalize parseM l = p at F HX
    clear hp
    go_enter Tryd.func98, Tryd.ntmps98
    go_wp2_with fail
    refine (HasPrefix_ba l _).mono ?_
    rintro e _ ⟨rfl, rfl⟩
    rw [hd]
    go_wp2_with fail
    refine HX.out.mono ?_
    rintro e w1 ⟨rfl, hb⟩
    have HR1 := Lib.hid (HR.out.below' hb)
    have k3 := HR1.out.dims
    have k4 := HR1.out.name
    have k5 := HR1.out.thaw 0
    have k6 := HR1.out.thaw 1
    go_wp2
    have HF := HR1.out.set p.dims (ba p.name)
    exact bodyPost_ret (Hi.results_cells_tmp rfl _ _ w.heap.size [.int .i64 p.dims, .string (ba p.name)] _ rfl (two HF.dims HF.name) Tryd.underlying106 rfl type_info) rfl ⟨by rw [F.out]; rfl, HF.below⟩
  · have hd : decide (l.head? = some 91) = false := decide_eq_false hp
    have F0 : Hid (refTyM l = if 2000 < l.length then ⟨0, [], 5⟩ else if Lf.validB l = true then ⟨0, l, 0⟩ else ⟨0, [], 4⟩) := Lib.hid (if_neg hp)
    clear hp
    by_cases hb : 2000 < l.length
    · have hd2 : decide ((2000 : Int) < (l.length : Int)) = true := by simp; omega
      have F : Hid (refTyM l = ⟨0, [], 5⟩) := Lib.hid (F0.out.trans (if_pos hb))
      go_enter Tryd.func98, Tryd.ntmps98
      go_wp2_with fail
      refine (HasPrefix_ba l _).mono ?_
      rintro e _ ⟨rfl, rfl⟩
      rw [hd]
      go_wp2
      have HF := HR.out
      exact bodyPost_ret (Hi.results_cells_tmp rfl _ _ w.heap.size [.int .i64 0, .string ⟨#[]⟩] _ rfl (two HF.dims HF.name) Tryd.underlying106 rfl type_info) rfl ⟨by rw [F.out]; rfl, HF.below⟩
    · have hd2 : decide ((2000 : Int) < (l.length : Int)) = false := by simp; omega
      cases hv : Lf.validB l
      all_goals
        have HV := Lib.hid (Valid_ba l _ (by omega) HE.out)
        rw [hv] at HV
        go_enter Tryd.func98, Tryd.ntmps98
        go_wp2_with fail
        refine (HasPrefix_ba l _).mono ?_
        rintro e _ ⟨rfl, rfl⟩
        rw [hd]
        go_wp2_with fail
        refine HV.out.mono ?_
        rintro e w1 ⟨rfl, hb1⟩
        have HR1 := Lib.hid (HR.out.below' hb1)
        have k3 := HR1.out.dims
        have k4 := HR1.out.name
        have k5 := HR1.out.thaw 0
        have k6 := HR1.out.thaw 1
        clear hb1
        go_wp2
      · have F : Hid (refTyM l = ⟨0, [], 4⟩) := Lib.hid ((F0.out.trans (if_neg hb)).trans (if_neg (by rw [hv]; simp)))
        have HF := HR1.out.set 0 ⟨#[]⟩
        exact bodyPost_ret (Hi.results_cells_tmp rfl _ _ w.heap.size [.int .i64 0, .string ⟨#[]⟩] _ rfl (two HF.dims HF.name) Tryd.underlying106 rfl type_info) rfl ⟨by rw [F.out]; rfl, HF.below⟩
      · have F : Hid (refTyM l = ⟨0, l, 0⟩) := Lib.hid ((F0.out.trans (if_neg hb)).trans (if_pos hv))
        have HF := HR1.out.set 0 (ba l)
        exact bodyPost_ret (Hi.results_cells_tmp rfl _ _ w.heap.size [.int .i64 0, .string (ba l)] _ rfl (two HF.dims HF.name) Tryd.underlying106 rfl type_info) rfl ⟨by rw [F.out]; rfl, HF.below⟩
end Go.Proofs.YtmpkdgankficeaaDoor.Pr
