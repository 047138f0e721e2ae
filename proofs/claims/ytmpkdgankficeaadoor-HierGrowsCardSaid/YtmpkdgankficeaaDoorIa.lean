/- What is asked of a world: its size, its names, its classes; and of a nil world. -/
import Derived.Test.YtmpkdgankficeaaDoorHx
set_option maxRecDepth 100000
set_option maxHeartbeats 8000000
set_option linter.unusedVariables false
set_option linter.unusedSimpArgs false
namespace Go.Proofs.YtmpkdgankficeaaDoor.Hi
open Go.RowKit Bs

theorem HW.all {S : Nat → Prop} {bw : Nat} {w : World} {m : List EntM} (h : HW S bw w m) : ∃ ga cap, w.cell? ⟨bw, 0, none⟩ = some (.slice ga m.length cap) ∧
    ∀ i (hi : i < m.length), ∃ g be, ga = some ⟨g, 0, none⟩ ∧ w.cell? ⟨g, i, none⟩ = some (.pointer (some ⟨be, 0, none⟩)) ∧ EntAt S w (.pointer (some ⟨be, 0, none⟩)) m[i] := by
  obtain ⟨T, va, bm, ps, D, h1, h2, h3, h4, h5⟩ := h
  obtain ⟨a, c, rfl⟩ := own_slice h1.row
  refine ⟨a, c, h1.all, fun i hi => ?_⟩
  obtain ⟨r1, ⟨_, r2⟩ | ⟨g, cap, cur, e, r3, r4, r5, r6, r7, r8⟩⟩ := h1.row
  · exact absurd r2 (by omega)
  · obtain ⟨v, hv, he⟩ := h1.ents i hi
    have he' := he
    obtain ⟨be, cs, cv, rfl, _⟩ := he
    injection e with e1 e2 e3
    refine ⟨g, be, e1, ?_, he'.mono h5⟩
    have e : cur.toList[i]? = some (.pointer (some ⟨be, 0, none⟩)) := by
      have : (cur.toList.take (m.length * 1))[i]? = some (.pointer (some ⟨be, 0, none⟩)) := by rw [r8]; exact hv
      rw [List.getElem?_take] at this
      rwa [if_pos (by omega)] at this
    simp only [World.cell?, r4]
    simpa using e

theorem Len {S : Nat → Prop} {bw : Nat} {w : World} {m : List EntM} (h : HW S bw w m) :
    Calls Tryd.prog 11 #[.pointer (some ⟨bw, 0, none⟩)] w fun e w' => e = .returned (.int .i64 m.length) ∧ w = w' := by
  obtain ⟨ga, cap, h1, _⟩ := h.all
  go_enter Tryd.func11, Tryd.ntmps11
  go_wp2
  go_ret
  exact ⟨rfl, rfl⟩
theorem Len_nil (w : World) : Calls Tryd.prog 11 #[.pointer none] w fun e w' => e = .returned (.int .i64 0) ∧ w = w' := by
  go_enter Tryd.func11, Tryd.ntmps11
  go_wp2
  go_ret
  exact ⟨rfl, rfl⟩

theorem at_nil (id : Int) (w : World) : Calls Tryd.prog 38 #[.pointer none, .int .i64 id] w fun e w' => e = .returned (.pointer none) ∧ w = w' := by
  go_enter Tryd.func38, Tryd.ntmps38
  go_wp2
  go_ret
  exact ⟨rfl, rfl⟩

/-- The name's number, or 0; is there one? -/
def byNameM (m : List EntM) (s : ByteArray) : Int × Int := match nameIx m s with | some i => ((i : Nat), 0) | none => (0, 6)

theorem ByName_nil (s : ByteArray) (w : World) : Calls Tryd.prog 18 #[.pointer none, .string s] w fun e w' => e = .returned (.tuple #[.int .i64 0, .int .i64 6]) ∧ w = w' := by
  go_enter Tryd.func18, Tryd.ntmps18
  go_wp2
  go_ret2
  exact ⟨rfl, rfl⟩

theorem int_lit {n : Nat} {c : Int} (h : (DataW.lit (.int .i64 c) : DataW Unit) = numD n) : c = n := by
  unfold numD at h
  injection h with h
  injection h

theorem ByName {S : Nat → Prop} {bw : Nat} {w : World} {m : List EntM} (h : HW S bw w m) (s : ByteArray) (hs : s.size ≤ maxLen) :
    Calls Tryd.prog 18 #[.pointer (some ⟨bw, 0, none⟩), .string s] w fun e w' => e = .returned (.tuple #[.int .i64 (byNameM m s).1, .int .i64 (byNameM m s).2]) ∧ w = w' := by
  obtain ⟨T, va, bm, ps, D, h1, _⟩ := h
  have hc := h1.byName
  have hr := h1.reads s
  have HM := Lib.hid h1.map
  clear h1
  cases hx : nameIx m s with
  | some i =>
    have h1 : Maps.has D (keyL s) = true := by rw [hr.1, hx]; rfl
    have HR := Lib.hid (hr.2 i hx (.lit (.int .i64 0)))
    have F : Hid (byNameM m s = (((i : Nat) : Int), 0)) := Lib.hid (by unfold byNameM; rw [hx])
    clear hr hx
    go_enter Tryd.func18, Tryd.ntmps18
    go_wp2_with (first | (at_lookup; refine wpList_lookup_own_ok_int _ rfl _ _ 65 rfl 9 3 .i64 (Maps.string_keyed Tryd.underlying9) Tryd.underlying65 Tryd.underlying3 (Tryd.zeroValue3 _) bm m.length D rfl HM.out _ (keyL s) rfl (WideMaps.keyOf_string_mk Tryd.underlying9 hs) ?_; rw [h1]; intro c hat hwc; obtain rfl := int_lit (hat.symm.trans HR.out)))
    go_ret2
    exact ⟨by rw [F.out]; rfl, rfl⟩
  | none =>
    have h1 : Maps.has D (keyL s) = false := by rw [hr.1, hx]; rfl
    have F : Hid (byNameM m s = (0, 6)) := Lib.hid (by unfold byNameM; rw [hx])
    clear hr hx
    go_enter Tryd.func18, Tryd.ntmps18
    go_wp2_with (first | (at_lookup; refine wpList_lookup_own_ok_int _ rfl _ _ 65 rfl 9 3 .i64 (Maps.string_keyed Tryd.underlying9) Tryd.underlying65 Tryd.underlying3 (Tryd.zeroValue3 _) bm m.length D rfl HM.out _ (keyL s) rfl (WideMaps.keyOf_string_mk Tryd.underlying9 hs) ?_; rw [h1]; intro c hat hwc; clear hat hwc))
    go_ret2
    exact ⟨by rw [F.out]; rfl, rfl⟩

theorem awake06 (w : World) : Calls Tryd.prog 8 #[] w fun e w' => e = .returned (.bool true) ∧ Below w.heap.size w w' := by
  go_enter Tryd.func8, Tryd.ntmps8
  go_wp2_with fail
  refine (New _).mono ?_
  rintro e w1 ⟨rfl, hw, hb⟩
  have HW1 := Lib.hid hw
  have HB := Lib.hid hb
  clear hw hb
  go_wp2_with fail
  refine (Len HW1.out).mono ?_
  rintro e w2 ⟨rfl, rfl⟩
  go_wp2_with fail
  refine (ByName HW1.out _ (show ByteArray.size ⟨#[67, 108, 111, 110, 101, 97, 98, 108, 101]⟩ ≤ maxLen by decide)).mono ?_
  rintro e w2 ⟨rfl, rfl⟩
  have hx : byNameM startM ⟨#[67, 108, 111, 110, 101, 97, 98, 108, 101]⟩ = (1, 0) := by decide
  rw [hx]
  go_wp2
  go_ret
  exact ⟨rfl, HB.out⟩
end Go.Proofs.YtmpkdgankficeaaDoor.Hi
