/- A law's world; a class that is none. -/
import Derived.Test.YtmpphhkbjmjomaaGreatDoorRo
set_option maxRecDepth 100000
set_option maxHeartbeats 2000000
set_option linter.unusedVariables false
set_option linter.unusedSimpArgs false
namespace Go.Proofs.YtmpphhkbjmjomaaGreatDoor.Hi
open Go.RowKit Bs

theorem built11 (a : Option Addr) (c : Nat) (xs : List ClsM) (w : World) (hx : ClsSl (fun b => b < w.heap.size) w (.slice a xs.length c) xs) (he : Lf.Env w) :
    Calls Tryz.prog 7 #[.slice a xs.length c] w fun e w' => e = .returned (.pointer (some ⟨w.heap.size + 1, 0, none⟩)) ∧ Built w.heap.size (w.heap.size + 1) w w' (defs xs) := by
  have HX := Lib.hid hx
  have HE := Lib.hid he
  obtain ⟨a', c', hf, hle, hby, hcells⟩ := hx
  injection hf with hf1 hf2 hf3
  subst hf1; subst hf3
  clear hcells he
  go_enter Tryz.func7, Tryz.ntmps7
  go_wp2_with fail
  refine (built_new _).mono ?_
  rintro e w2 ⟨rfl, h2⟩
  have H0 := Lib.hid h2
  clear h2
  obtain ⟨B, hB⟩ : ∃ B, w.heap.size = B := ⟨_, rfl⟩
  rw [hB] at H0 ⊢
  have HBE := Lib.hid hB
  clear hB
  go_wp2_with fail
  go_loopg [4] xs.length (fun gk u wr => ∃ (k : Nat) (m : List EntM), Hid (k + gk = xs.length ∧ m = defs (xs.take k)) ∧ u = .int .i64 k ∧ Hid (Built B (B + 1) w wr m))
  case atStart => exact ⟨0, startM, Lib.hid ⟨Nat.zero_add _, by simp [defs]⟩, rfl, H0⟩
  case round =>
    clear H0
    obtain ⟨k, m, hk, rfl, HB⟩ := hrel
    by_cases hlt : k < xs.length
    · have hlt' : (k : Int) < (xs.length : Int) := by omega
      obtain ⟨b, o, v2, v5, rfl, g0, g1, g2, g3, g4, g5, hcl, ⟨ia, ic, rfl⟩, ⟨ma, mc, rfl⟩⟩ := cls_elem HX.out (fun _ h => h) HB.out.below hlt
      have HD := Lib.hid (Define HB.out.hw HB.out.ord.short hcl (fun q hq => Nat.lt_of_lt_of_le hq HB.out.below.size) HB.out.live (HE.out.below HB.out.below))
      have HM : Hid (defs (xs.take (k + 1)) = defM m xs[k]) := Lib.hid (by rw [List.take_succ_eq_append_getElem hlt, defs_snoc, hk.out.2])
      clear hcl
      generalize xs[k] = c at g0 g1 g2 g3 g4 g5 HD HM
      go_wp2_with fail
      refine HD.out.mono ?_
      rintro e w3 ⟨rfl, hw3, hc3⟩
      have HB3 := Lib.hid (HB.out.define c hw3 hc3)
      clear hw3 hc3 g0 g1 g2 g3 g4 g5 HD
      go_wp2
      go_roundg (xs.length - (k + 1))
      case measure => have := hk.out.1; omega
      case rel => exact ⟨k + 1, defM m c, Lib.hid ⟨by omega, HM.out.symm⟩, by go_num, HB3⟩
    · have hkn : k = xs.length := by have := hk.out.1; omega
      have HM : Hid (m = defs xs) := Lib.hid (by rw [hk.out.2, hkn, List.take_length])
      clear hkn
      go_wp2
      go_ret
      have hb := HBE.out
      subst hb
      exact ⟨rfl, by rw [← HM.out]; exact HB.out⟩

theorem ClsSl.nextR {w w' : World} {v : Value} {xs : List ClsM} (h : ClsSl (fun b => b < w.heap.size) w v xs) (hb : Below w.heap.size w w') : ClsSl (fun b => b < w'.heap.size) w' v xs :=
  (ClsSl.alike h (Alike.of_below hb fun _ h => h)).mono (fun _ hk => Nat.lt_of_lt_of_le hk hb.size) fun _ _ h => h.mono fun _ hk => Nat.lt_of_lt_of_le hk hb.size

theorem Class_none {S : Nat → Prop} {bw : Nat} {w : World} {m : List EntM} (h : HW S bw w m) (hS : ∀ k, S k → k < w.heap.size) {id : Int} (he : entAt m id = none) :
    Calls Tryz.prog 20 #[.pointer (some ⟨bw, 0, none⟩), .int .i64 id] w fun r w' => r = .returned (.tuple #[.agg #[.string ⟨#[]⟩, .string ⟨#[]⟩, .slice none 0 0, .int .i64 0, .int .i64 0, .slice none 0 0], .int .i64 3]) ∧ Below w.heap.size w w' := by
  have hba : Below w.heap.size w (w.alloc (.cells #[.string ⟨#[]⟩, .string ⟨#[]⟩, .slice none 0 0, .int .i64 0, .int .i64 0, .slice none 0 0] 54)) := (Below.refl _ _).alloc (Nat.le_refl _) _
  have HA := Lib.hid (at_out (h.alike hba.size (Alike.of_below hba hS)) he)
  clear h hba
  go_enter Tryz.func20, Tryz.ntmps20
  go_wp2_with fail
  refine HA.out.mono ?_
  rintro e w' ⟨rfl, rfl⟩
  go_wp2
  exact bodyPost_ret (results_cells_tmp rfl _ _ w.heap.size [_, _, _, _, _, _] _ rfl (six (World.cell?_alloc_new ..) (World.cell?_alloc_new ..) (World.cell?_alloc_new ..) (World.cell?_alloc_new ..) (World.cell?_alloc_new ..) (World.cell?_alloc_new ..)) Tryz.underlying54 rfl class_info) rfl ⟨rfl, (Below.refl _ _).alloc (Nat.le_refl _) _⟩

end Go.Proofs.YtmpphhkbjmjomaaGreatDoor.Hi
