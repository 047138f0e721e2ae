/- Virtual tables: Size, awake13, built13. -/
import Derived.Test.YtipinmbpdgjalaaGreatDoorJi
set_option maxRecDepth 100000
set_option maxHeartbeats 8000000
set_option linter.unusedVariables false
set_option linter.unusedSimpArgs false
namespace Go.Proofs.YtipinmbpdgjalaaGreatDoor.Hi
open Go.RowKit Go.Shelf Go.Sort Bs
attribute [local go_sem] Oper.semAt_some
attribute [local go_sem ↓] Go.wp_at_zero Go.wp_at_succ

theorem built13 (a : Option Addr) (c : Nat) (xs : List ClsM) (w : World) (hx : ClsSl (fun b => b < w.heap.size) w (.slice a xs.length c) xs) (he : Lf.Env w) :
    Calls Tryz.prog 10 #[.slice a xs.length c] w fun e w' => e = .returned (.pointer (some ⟨w.heap.size + 1, 0, none⟩)) ∧ Built w.heap.size (w.heap.size + 1) w w' (defs xs) := by
  have HX := Lib.hid hx
  have HE := Lib.hid he
  obtain ⟨a', c', hf, hle, hby, hcells⟩ := hx
  injection hf with hf1 hf2 hf3
  subst hf1; subst hf3
  clear hcells he
  go_enter Tryz.func10, Tryz.ntmps10
  go_wp2_with fail
  refine (built_new _).mono ?_
  rintro e w2 ⟨rfl, h2⟩
  have H0 := Lib.hid h2
  clear h2
  obtain ⟨B, hB⟩ : ∃ B, w.heap.size = B := ⟨_, rfl⟩
  rw [hB] at H0 ⊢
  have HBE := Lib.hid hB
  clear hB
  go_wp2_with fail
  go_loopg [4] xs.length (fun gk u wr => ∃ (k : Nat) (m : List EntM), Hid (k + gk = xs.length ∧ m = defs (xs.take k)) ∧ u = .int .i64 k ∧ Hid (Built B (B + 1) w wr m))
  case atStart => exact ⟨0, startM, Lib.hid ⟨Nat.zero_add _, by simp [defs]⟩, rfl, H0⟩
  case round =>
    clear H0
    obtain ⟨k, m, hk, rfl, HB⟩ := hrel
    by_cases hlt : k < xs.length
    · have hlt' : (k : Int) < (xs.length : Int) := by omega
      obtain ⟨b, o, v2, v5, rfl, g0, g1, g2, g3, g4, g5, hcl, ⟨ia, ic, rfl⟩, ⟨ma, mc, rfl⟩⟩ := cls_elem HX.out (fun _ h => h) HB.out.below hlt
      have HD := Lib.hid (Define HB.out.hw HB.out.ord.short hcl (fun q hq => Nat.lt_of_lt_of_le hq HB.out.below.size) HB.out.live (HE.out.below HB.out.below))
      have HM : Hid (defs (xs.take (k + 1)) = defM m xs[k]) := Lib.hid (by rw [List.take_succ_eq_append_getElem hlt, defs_snoc, hk.out.2])
      clear hcl
      generalize xs[k] = c at g0 g1 g2 g3 g4 g5 HD HM
      go_wp2_with fail
      refine HD.out.mono ?_
      rintro e w3 ⟨rfl, hw3, hc3⟩
      have HB3 := Lib.hid (HB.out.define c hw3 hc3)
      clear hw3 hc3 g0 g1 g2 g3 g4 g5 HD
      go_wp2
      go_roundg (xs.length - (k + 1))
      case measure => have := hk.out.1; omega
      case rel => exact ⟨k + 1, defM m c, Lib.hid ⟨by omega, HM.out.symm⟩, by go_num, HB3⟩
    · have hkn : k = xs.length := by have := hk.out.1; omega
      have HM : Hid (m = defs xs) := Lib.hid (by rw [hk.out.2, hkn, List.take_length])
      clear hkn
      go_wp2
      go_ret
      have hb := HBE.out
      subst hb
      exact ⟨rfl, by rw [← HM.out]; exact HB.out⟩
theorem VSize {B bw : Nat} {w0 w : World} {m : List EntM} (h : Built B bw w0 w m) (hml : MlA m) (r : Int) :
    Calls Tryz.prog 39 #[.pointer (some ⟨bw, 0, none⟩), .int .i64 r] w fun e w' => e = .returned (.tuple #[.int .i64 (bldM m r).1.length, .int .i64 (bldM m r).2]) ∧ Below w.heap.size w w' := by
  have HB := Lib.hid (VBuild h hml r)
  generalize bldM m r = R at *
  clear h
  go_enter Tryz.func39, Tryz.ntmps39
  go_wp2_with fail
  refine HB.out.mono ?_
  rintro _ w1 ⟨v, rfl, hrow, hb⟩
  obtain ⟨ra, rc, rfl⟩ := own_slice hrow
  have HB1 := Lib.hid hb
  clear HB hrow hb
  go_wp2
  go_ret2
  exact ⟨rfl, HB1.out⟩
theorem mlA_start : MlA startM := mlA_defs []
theorem awake_tab : (bldM startM (0 : Int)).1.length = 2 ∧ (bldM startM (0 : Int)).2 = 0 := by decide +kernel
theorem awake13 (w : World) : Calls Tryz.prog 9 #[] w fun r w' => r = .returned (.bool true) ∧ Below w.heap.size w w' := by
  go_enter Tryz.func9, Tryz.ntmps9
  go_wp2_with fail
  refine (built_new _).mono ?_
  rintro e w2 ⟨rfl, h2⟩
  have HS := VSize h2 mlA_start 0
  rw [awake_tab.1, awake_tab.2] at HS
  have HS := Lib.hid HS
  have HB := Lib.hid h2.below
  clear h2
  go_wp2_with fail
  refine HS.out.mono ?_
  rintro _ w3 ⟨rfl, hb⟩
  have HB3 := Lib.hid (HB.out.trans (hb.mono HB.out.size))
  clear hb HS HB
  go_wp2
  go_ret
  exact ⟨rfl, HB3.out⟩
end Go.Proofs.YtipinmbpdgjalaaGreatDoor.Hi
