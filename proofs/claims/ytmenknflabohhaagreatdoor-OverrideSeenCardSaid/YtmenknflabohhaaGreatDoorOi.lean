/- Overriding: a law's world. -/
import Derived.Test.YtmenknflabohhaaGreatDoorOh
set_option maxRecDepth 100000
set_option maxHeartbeats 2000000
set_option linter.unusedVariables false
set_option linter.unusedSimpArgs false
namespace Go.Proofs.YtmenknflabohhaaGreatDoor.Hi
open Go.RowKit Bs
attribute [local go_sem ↓] Go.wp_at_zero Go.wp_at_succ

theorem built09 (a : Option Addr) (c : Nat) (xs : List ClsM) (w : World) (hx : ClsSl (fun b => b < w.heap.size) w (.slice a xs.length c) xs) (he : Lf.Env w) :
    Calls Tryz.prog 6 #[.slice a xs.length c] w fun e w' => e = .returned (.pointer (some ⟨w.heap.size + 1, 0, none⟩)) ∧ Built w.heap.size (w.heap.size + 1) w w' (defs xs) := by
  have HX := Lib.hid hx
  have HE := Lib.hid he
  obtain ⟨a', c', hf, hle, hby, hcells⟩ := hx
  injection hf with hf1 hf2 hf3
  subst hf1; subst hf3
  clear hcells he
  go_enter Tryz.func6, Tryz.ntmps6
  go_wp2_with fail
  refine (built_new _).mono ?_
  rintro e w2 ⟨rfl, h2⟩
  have H0 := Lib.hid h2
  clear h2
  obtain ⟨B, hB⟩ : ∃ B, w.heap.size = B := ⟨_, rfl⟩
  rw [hB] at H0 ⊢
  have HBE := Lib.hid hB
  clear hB
  go_wp2_with fail
  go_loopg [4] xs.length (fun gk u wr => ∃ (k : Nat) (m : List EntM), Hid (k + gk = xs.length ∧ m = defs (xs.take k)) ∧ u = .int .i64 k ∧ Hid (Built B (B + 1) w wr m))
  case atStart => exact ⟨0, startM, Lib.hid ⟨Nat.zero_add _, by simp [defs]⟩, rfl, H0⟩
  case round =>
    clear H0
    obtain ⟨k, m, hk, rfl, HB⟩ := hrel
    by_cases hlt : k < xs.length
    · have hlt' : (k : Int) < (xs.length : Int) := by omega
      obtain ⟨b, o, v2, v5, rfl, g0, g1, g2, g3, g4, g5, hcl, ⟨ia, ic, rfl⟩, ⟨ma, mc, rfl⟩⟩ := cls_elem HX.out (fun _ h => h) HB.out.below hlt
      have HD := Lib.hid (Define HB.out.hw HB.out.ord.short hcl (fun q hq => Nat.lt_of_lt_of_le hq HB.out.below.size) HB.out.live (HE.out.below HB.out.below))
      have HM : Hid (defs (xs.take (k + 1)) = defM m xs[k]) := Lib.hid (by rw [List.take_succ_eq_append_getElem hlt, defs_snoc, hk.out.2])
      clear hcl
      generalize xs[k] = c at g0 g1 g2 g3 g4 g5 HD HM
      go_wp2_with fail
      refine HD.out.mono ?_
      rintro e w3 ⟨rfl, hw3, hc3⟩
      have HB3 := Lib.hid (HB.out.define c hw3 hc3)
      clear hw3 hc3 g0 g1 g2 g3 g4 g5 HD
      go_wp2
      go_roundg (xs.length - (k + 1))
      case measure => have := hk.out.1; omega
      case rel => exact ⟨k + 1, defM m c, Lib.hid ⟨by omega, HM.out.symm⟩, by go_num, HB3⟩
    · have hkn : k = xs.length := by have := hk.out.1; omega
      have HM : Hid (m = defs xs) := Lib.hid (by rw [hk.out.2, hkn, List.take_length])
      clear hkn
      go_wp2
      go_ret
      have hb := HBE.out
      subst hb
      exact ⟨rfl, by rw [← HM.out]; exact HB.out⟩

theorem ClsSl.nextO {w w' : World} {v : Value} {xs : List ClsM} (h : ClsSl (fun b => b < w.heap.size) w v xs) (hb : Below w.heap.size w w') : ClsSl (fun b => b < w'.heap.size) w' v xs :=
  (ClsSl.alike h (Alike.of_below hb fun _ h => h)).mono (fun _ hk => Nat.lt_of_lt_of_le hk hb.size) fun _ _ h => h.mono fun _ hk => Nat.lt_of_lt_of_le hk hb.size

/-- A method, whatever is asked. -/
theorem MethodAny {B bw : Nat} {w0 w : World} {m : List EntM} (h : Built B bw w0 w m) (p : Int × Int) :
    Calls Tryz.prog 12 #[.pointer (some ⟨bw, 0, none⟩), .agg #[.int .i64 p.1, .int .i64 p.2]] w fun r w' => ∃ (nm ds : ByteArray) (f l s : Int) (ad : Option Addr) (q c : Nat) (er : Int), r = .returned (.tuple #[.agg #[.string nm, .string ds, .int .i64 f, .int .i64 l, .int .i64 s, .slice ad q c], .int .i64 er]) ∧ (er = 0 → ∃ x, methAt m p = some x ∧ nm = x.name ∧ ds = x.desc ∧ f = x.flags) ∧ (er ≠ 0 → methAt m p = none ∧ er = 3) ∧ Below w.heap.size w w' := by
  cases hx : methAt m p with
  | some x =>
    refine (OMethod_some h hx).mono ?_
    rintro r w' ⟨ad, q, c, rfl, hb⟩
    exact ⟨_, _, _, _, _, _, _, _, _, rfl, fun _ => ⟨x, rfl, rfl, rfl, rfl⟩, fun h => absurd rfl h, hb⟩
  | none =>
    refine (OMethod_none h hx).mono ?_
    rintro r w' ⟨rfl, hb⟩
    exact ⟨⟨#[]⟩, ⟨#[]⟩, 0, 0, 0, none, 0, 0, 3, rfl, fun h => absurd h (by decide), fun _ => ⟨rfl, rfl⟩, hb⟩
theorem ovR_err (m : List EntM) (c a : Int × Int) : (ovR m c a).2 = 0 ∨ (ovR m c a).2 = 3 := by
  unfold ovR
  split
  · exact .inl rfl
  · exact .inr rfl
theorem ovR_ok {m : List EntM} {c a : Int × Int} {x y : MethM} (hx : methAt m a = some x) (hy : methAt m c = some y) : ovR m c a = (ovM m c a x, 0) := by
  unfold ovR
  rw [hx, hy]
theorem awake_ov (hw : WFm startM) : ovR startM ((0 : Int), (1 : Int)) ((0 : Int), (1 : Int)) = (true, 0) := by
  have hx : methAt startM ((0 : Int), (1 : Int)) = some (startM[0]'(by decide)).c.meths[1] := rfl
  rw [ovR_ok hx hx, ov_refl hw hx]
  rfl
theorem awake_over {B bw : Nat} {w0 w : World} (h : Built B bw w0 w startM) :
    Calls Tryz.prog 7 #[.pointer (some ⟨bw, 0, none⟩), .agg #[.int .i64 0, .int .i64 1], .agg #[.int .i64 0, .int .i64 1]] w fun r w' => r = .returned (.tuple #[.bool true, .int .i64 0]) ∧ Below w.heap.size w w' := by
  have := OOverrides h ((0 : Int), (1 : Int)) ((0 : Int), (1 : Int))
  rw [awake_ov h.wf] at this
  exact this
theorem awake09 (w : World) : Calls Tryz.prog 5 #[] w fun r w' => r = .returned (.bool true) ∧ Below w.heap.size w w' := by
  obtain ⟨wa, hwa⟩ : ∃ wa, (w.alloc (.cells #[.int .i64 0, .int .i64 1] 28)) = wa := ⟨_, rfl⟩
  have hba : Below w.heap.size w wa := by rw [← hwa]; exact (Below.refl _ _).alloc (Nat.le_refl _) _
  have i0 : wa.cell? ⟨w.heap.size, 0, none⟩ = some (.int .i64 0) := by rw [← hwa]; exact World.cell?_alloc_new ..
  have i1 : wa.cell? ⟨w.heap.size, 1, none⟩ = some (.int .i64 1) := by rw [← hwa]; exact World.cell?_alloc_new ..
  have HBA := Lib.hid hba
  clear hba
  go_enter Tryz.func5, Tryz.ntmps5
  go_wp2_with fail
  try rw [hwa]
  clear hwa
  go_region_with (first | (go_at_call 19; (with_reducible refine (built_new wa.drew).mono ?_); rintro _ w1 ⟨rfl, h1⟩; (have HB1 : Hid (Below w.heap.size w w1) := Lib.hid (HBA.out.trans (((Below.refl wa.heap.size wa).drew.trans h1.below).mono HBA.out.size))); (have HO := Lib.hid (awake_over (bw := wa.heap.size + 1) h1)); (have j0 := below_cell' h1.below (show wa.drew.cell? _ = _ from i0)); (have j1 := below_cell' h1.below (show wa.drew.cell? _ = _ from i1))) | (go_at_call 7; (with_reducible refine HO.out.mono ?_); rintro _ w2 ⟨rfl, hb2⟩; (have HB2 := Lib.hid (HB1.out.trans (hb2.mono HB1.out.size)))))
  all_goals
    go_wp2
    go_ret
    exact ⟨rfl, HB2.out⟩
end Go.Proofs.YtmenknflabohhaaGreatDoor.Hi
