/- Overriding: a law's world. -/
import Derived.Test.YtiiebakblkpkeaaGreatDoorOh
set_option maxRecDepth 100000
set_option maxHeartbeats 2000000
set_option linter.unusedVariables false
set_option linter.unusedSimpArgs false
namespace Go.Proofs.YtiiebakblkpkeaaGreatDoor.Hi
open Go.RowKit Bs
attribute [local go_sem ↓] Go.wp_at_zero Go.wp_at_succ


theorem ClsSl.nextO {w w' : World} {v : Value} {xs : List ClsM} (h : ClsSl (fun b => b < w.heap.size) w v xs) (hb : Below w.heap.size w w') : ClsSl (fun b => b < w'.heap.size) w' v xs :=
  (ClsSl.alike h (Alike.of_below hb fun _ h => h)).mono (fun _ hk => Nat.lt_of_lt_of_le hk hb.size) fun _ _ h => h.mono fun _ hk => Nat.lt_of_lt_of_le hk hb.size

/-- A method, whatever is asked. -/
theorem MethodAny {B bw : Nat} {w0 w : World} {m : List EntM} (h : Built B bw w0 w m) (p : Int × Int) :
    Calls Tryz.prog 15 #[.pointer (some ⟨bw, 0, none⟩), .agg #[.int .i64 p.1, .int .i64 p.2]] w fun r w' => ∃ (nm ds : ByteArray) (f l s : Int) (ad : Option Addr) (q c : Nat) (er : Int), r = .returned (.tuple #[.agg #[.string nm, .string ds, .int .i64 f, .int .i64 l, .int .i64 s, .slice ad q c], .int .i64 er]) ∧ (er = 0 → ∃ x, methAt m p = some x ∧ nm = x.name ∧ ds = x.desc ∧ f = x.flags) ∧ (er ≠ 0 → methAt m p = none ∧ er = 3) ∧ Below w.heap.size w w' := by
  cases hx : methAt m p with
  | some x =>
    refine (OMethod_some h hx).mono ?_
    rintro r w' ⟨ad, q, c, rfl, hb⟩
    exact ⟨_, _, _, _, _, _, _, _, _, rfl, fun _ => ⟨x, rfl, rfl, rfl, rfl⟩, fun h => absurd rfl h, hb⟩
  | none =>
    refine (OMethod_none h hx).mono ?_
    rintro r w' ⟨rfl, hb⟩
    exact ⟨⟨#[]⟩, ⟨#[]⟩, 0, 0, 0, none, 0, 0, 3, rfl, fun h => absurd h (by decide), fun _ => ⟨rfl, rfl⟩, hb⟩
theorem ovR_err (m : List EntM) (c a : Int × Int) : (ovR m c a).2 = 0 ∨ (ovR m c a).2 = 3 := by
  unfold ovR
  split
  · exact .inl rfl
  · exact .inr rfl
theorem ovR_ok {m : List EntM} {c a : Int × Int} {x y : MethM} (hx : methAt m a = some x) (hy : methAt m c = some y) : ovR m c a = (ovM m c a x, 0) := by
  unfold ovR
  rw [hx, hy]
theorem awake_ov (hw : WFm startM) : ovR startM ((0 : Int), (1 : Int)) ((0 : Int), (1 : Int)) = (true, 0) := by
  have hx : methAt startM ((0 : Int), (1 : Int)) = some (startM[0]'(by decide)).c.meths[1] := rfl
  rw [ovR_ok hx hx, ov_refl hw hx]
  rfl
theorem awake_over {B bw : Nat} {w0 w : World} (h : Built B bw w0 w startM) :
    Calls Tryz.prog 19 #[.pointer (some ⟨bw, 0, none⟩), .agg #[.int .i64 0, .int .i64 1], .agg #[.int .i64 0, .int .i64 1]] w fun r w' => r = .returned (.tuple #[.bool true, .int .i64 0]) ∧ Below w.heap.size w w' := by
  have := OOverrides h ((0 : Int), (1 : Int)) ((0 : Int), (1 : Int))
  rw [awake_ov h.wf] at this
  exact this
end Go.Proofs.YtiiebakblkpkeaaGreatDoor.Hi
