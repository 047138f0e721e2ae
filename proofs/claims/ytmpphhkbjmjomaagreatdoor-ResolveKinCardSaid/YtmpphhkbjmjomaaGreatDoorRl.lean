/- What a new world says of Object. -/
import Derived.Test.YtmpphhkbjmjomaaGreatDoorRg
set_option maxRecDepth 100000
set_option maxHeartbeats 1000000
set_option linter.unusedVariables false
set_option linter.unusedSimpArgs false
namespace Go.Proofs.YtmpphhkbjmjomaaGreatDoor.Hi
open Go.RowKit Bs

def objN : ByteArray := ⟨#[79, 98, 106, 101, 99, 116]⟩
def idN : ByteArray := ⟨#[105, 100]⟩
def idD : ByteArray := ⟨#[40, 41, 73]⟩
def objT : TyM := ⟨0, objN⟩
theorem start_lt : 0 < startM.length := by rw [show startM.length = 3 from startAt_len 2]; omega
theorem s_byName : byNameM startM objN = (((0 : Nat) : Int), 0) := by decide
theorem s_nameIx : (nameIx startM objN).isNone = false := by decide
theorem s_valid : Lf.validB objN.data.toList = true := by decide
theorem s_loaded : loadedE startM objT = 0 := by
  unfold loadedE
  have h1 : tyOk objT = true := by
    unfold tyOk objT
    rw [s_valid]
    simp
  rw [h1, if_pos rfl]
  have h2 : (nameIx startM objT.name).isNone = false := s_nameIx
  rw [h2, Bool.and_false]
  rfl
theorem s_empty : objT.name.toList.isEmpty = false := by
  rw [ByteArray.toList_eq]
  rfl
theorem s_open : classOpenM startM 0 0 = true := by
  unfold classOpenM
  have : (bits .and .i64 (clsAt startM 0).flags 1 != 0) = true := by decide
  rw [this, Bool.true_or]
theorem s_ref : Pr.refTyM [79, 98, 106, 101, 99, 116] = ⟨0, [79, 98, 106, 101, 99, 116], 0⟩ := by decide
theorem s_desc : (Pr.descM [40, 41, 73]).err = 0 := by decide
theorem s_member : Lf.memberB (Pr.ba [105, 100]) = true := by
  unfold Lf.memberB
  have h1 : Lf.partB (Pr.ba [105, 100]).data.toList = true := by decide
  have h2 : decide ((Pr.ba [105, 100]).size ≤ 60) = true := by decide
  rw [h1, h2, Bool.and_true, Bool.or_true]
theorem s_form : Pr.refB [79, 98, 106, 101, 99, 116] [105, 100] [40, 41, 73] = true := by
  unfold Pr.refB
  rw [s_ref, s_member]
  have := s_desc
  simp [this]
theorem s_iface : isIfaceM startM ((0 : Nat) : Int) = false := by decide
theorem s_mEq (n d : ByteArray) : Pr.mEq n d = fun x => decide (x.name = n) && decide (x.desc = d) := by
  funext x
  unfold Pr.mEq
  rw [str_eq, str_eq]
theorem s_find : findH startM ((0 : Nat) : Int) idN idD = (1, 0) := by
  unfold findH Pr.findM
  rw [s_mEq]
  decide
theorem s_ch : ch startM 0 = [0] := by decide
theorem s_lookup : lookupM startM 0 idN idD = ((((0 : Nat) : Int), ((1 : Nat) : Int)), 0) := by
  have h1 : chainR startM 0 idN idD = ((0, 1), 0) := by
    unfold chainR
    rw [s_ch]
    unfold firstM
    rw [show findH startM (0 : Int) idN idD = (1, 0) from s_find]
    rfl
  unfold lookupM firstR
  rw [h1]
  rfl
theorem s_meths : 1 < (startM[0]'start_lt).c.meths.length := by decide
theorem s_flags : openM ((startM[0]'start_lt).c.meths[1]'s_meths).flags = 1 := by decide

/-- A new world's Object, by its text. -/
theorem start_class {B bw : Nat} {w0 w : World} (h : Built B bw w0 w startM) (he : Lf.Env w) :
    Calls Tryz.prog 9 #[.pointer (some ⟨bw, 0, none⟩), .int .i64 (0 : Nat), .string objN] w fun r w' => r = .returned (.tuple #[.agg #[.int .i64 0, .string objN], .int .i64 0]) ∧ Below w.heap.size w w' :=
  RClass_ok objT (fun wr hr => Class2 (h.next hr) start_lt)
    (fun wr hr => (Pr.ParseRef [79, 98, 106, 101, 99, 116] wr (by decide) (he.below hr)).mono fun r w' ⟨h1, h2⟩ => ⟨by rw [h1, s_ref]; rfl, h2⟩)
    (fun wr hr => (Loaded (h.next hr) objT (by decide) (he.below hr)).mono fun r w' ⟨h1, h2⟩ => ⟨by rw [h1, s_loaded], h2⟩)
    (fun wr hr => (TypeOpen_class (h.next hr) start_lt start_lt objT (by decide) (he.below hr) s_loaded s_empty s_byName).mono fun r w' ⟨h1, h2⟩ => ⟨by rw [h1, s_open], h2⟩)
theorem start_found {B bw : Nat} {w0 w : World} (h : Built B bw w0 w startM) (he : Lf.Env w) :
    Calls Tryz.prog 22 #[.pointer (some ⟨bw, 0, none⟩), .agg #[.int .i64 0, .string objN], .agg #[.bool false, .string objN, .string idN, .string idD]] w fun r w' => r = .returned (.tuple #[.agg #[.int .i64 (0 : Nat), .int .i64 (1 : Nat)], .int .i64 (0 : Nat), .int .i64 0]) ∧ Below w.heap.size w w' :=
  RFound_class (p := (((0 : Nat) : Int), ((1 : Nat) : Int))) objT
    (fun wr hr => (Holder_class (h.next hr) objT (by decide) (he.below hr) s_loaded rfl s_empty).mono fun r w' ⟨h1, h2⟩ => ⟨by rw [h1]; show Ending.returned (.tuple #[.int .i64 (byNameM startM objN).1, .int .i64 (byNameM startM objN).2]) = _; rw [s_byName], h2⟩)
    (fun wr hr => (Lookup_in (h.next hr) start_lt s_iface idN idD).mono fun r w' ⟨h1, h2⟩ => ⟨by rw [h1, s_lookup]; rfl, h2⟩)
theorem start_method {B bw : Nat} {w0 w : World} (h : Built B bw w0 w startM) (he : Lf.Env w) :
    Calls Tryz.prog 8 #[.pointer (some ⟨bw, 0, none⟩), .int .i64 (0 : Nat), .agg #[.bool false, .string objN, .string idN, .string idD]] w fun r w' => r = .returned (.tuple #[.agg #[.int .i64 (0 : Nat), .int .i64 (1 : Nat)], .int .i64 0]) ∧ Below w.heap.size w w' :=
  RMethod_ok (hol := ((0 : Nat) : Int)) (p := (((0 : Nat) : Int), ((1 : Nat) : Int))) objT (fun wr hr => Class2 (h.next hr) start_lt)
    (fun wr hr => (Pr.RefCheck false [79, 98, 106, 101, 99, 116] [105, 100] [40, 41, 73] wr (by decide) (by decide) (by decide) (he.below hr)).mono fun r w' ⟨h1, h2⟩ => ⟨by rw [h1, s_form]; rfl, h2⟩)
    (fun wr hr => start_class (h.next hr) (he.below hr))
    (fun wr hr => start_found (h.next hr) (he.below hr))
    (fun wr hr => MethodOpen_own (h.next hr) start_lt start_lt s_meths s_flags)

theorem awake11 (w : World) (he : Lf.Env w) : Calls Tryz.prog 6 #[] w fun r w' => r = .returned (.bool true) ∧ Below w.heap.size w w' := by
  have HE := Lib.hid he
  clear he
  go_enter Tryz.func6, Tryz.ntmps6
  go_wp2_with fail
  refine (built_new _).mono ?_
  rintro e w1 ⟨rfl, h1⟩
  have HB1 := Lib.hid h1.below
  have HM := Lib.hid (start_method h1 (HE.out.below h1.below))
  clear h1
  go_wp2_with fail
  refine HM.out.mono ?_
  rintro e w2 ⟨rfl, hb⟩
  have HB2 := Lib.hid (HB1.out.trans (hb.mono HB1.out.size))
  have HB3 := Lib.hid (HB2.out.alloc HB2.out.size (.cells #[.int .i64 (0 : Nat), .int .i64 (1 : Nat)] 29))
  clear hb HM
  go_wp2
  go_ret
  exact ⟨rfl, HB3.out⟩
end Go.Proofs.YtmpphhkbjmjomaaGreatDoor.Hi
