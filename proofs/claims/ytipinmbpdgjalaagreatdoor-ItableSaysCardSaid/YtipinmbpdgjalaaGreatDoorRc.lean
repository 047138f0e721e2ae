/- Flags' word, and roads on which a method is looked up: what needs no world. -/
import Derived.Test.YtipinmbpdgjalaaGreatDoorMM
import Derived.Laws.AppendOwn
import Derived.Lib.Hide
import Derived.Deep.LoopGhost
import Derived.Lib.AppendZeros
set_option maxRecDepth 100000
set_option maxHeartbeats 1000000
set_option linter.unusedVariables false
set_option linter.unusedSimpArgs false
namespace Go.Proofs.YtipinmbpdgjalaaGreatDoor.Hi
open Go.RowKit Bs

/-- Who may see a method of these flags: 1, 4, 2 or 0. -/
def openM (f : Int) : Int := if (bits .and .i64 f 1 != 0) = true then 1 else if (bits .and .i64 f 4 != 0) = true then 4 else if (bits .and .i64 f 2 != 0) = true then 2 else 0

theorem open0 (w : World) : (Instr.index 164 (.agg #[.int .i64 1, .int .i64 4, .int .i64 2]) (.int .i64 0)).run Tryz.prog w = .ok (.int .i64 1) w := by kernel_rfl
theorem open1 (w : World) : (Instr.index 164 (.agg #[.int .i64 1, .int .i64 4, .int .i64 2]) (.int .i64 1)).run Tryz.prog w = .ok (.int .i64 4) w := by kernel_rfl
theorem open2 (w : World) : (Instr.index 164 (.agg #[.int .i64 1, .int .i64 4, .int .i64 2]) (.int .i64 2)).run Tryz.prog w = .ok (.int .i64 2) w := by kernel_rfl
theorem FOpen (f : Int) (w : World) :
    Calls Tryz.prog 98 #[.int .i64 f] w fun e w' => e = .returned (.int .i64 (openM f)) ∧ w = w' := by
  have HR : Hid (openM f = if (bits .and .i64 f 1 != 0) = true then 1 else if (bits .and .i64 f 4 != 0) = true then 4 else if (bits .and .i64 f 2 != 0) = true then 2 else 0) := Lib.hid rfl
  generalize openM f = R at *
  cases h1 : (bits .and .i64 f 1 != 0) <;> cases h2 : (bits .and .i64 f 4 != 0) <;> cases h3 : (bits .and .i64 f 2 != 0) <;> rw [h1, h2, h3] at HR
  all_goals
    have x0 := open0 w
    have x1 := open1 w
    have x2 := open2 w
    go_enter Tryz.func98, Tryz.ntmps98
    go_wp2_with fail
    go_loopg [6] 3 (fun gk u wr => ∃ i : Nat, Hid (i + gk = 3) ∧ u = .int .i64 i ∧ w = wr ∧ Hid ((0 < i → (bits .and .i64 f 1 != 0) = false) ∧ (1 < i → (bits .and .i64 f 4 != 0) = false) ∧ (2 < i → (bits .and .i64 f 2 != 0) = false)))
    case atStart => exact ⟨0, Lib.hid (Nat.zero_add _), by go_num, rfl, Lib.hid ⟨by omega, by omega, by omega⟩⟩
    case round =>
      obtain ⟨i, hi, rfl, rfl, hp⟩ := hrel
      match i, hi, hp with
      | 0, hi, hp =>
        go_wp2
        first
          | (go_ret; exact ⟨by rw [HR.out]; rfl, rfl⟩)
          | (go_roundg 2
             case measure => have := hi.out; omega
             case rel => exact ⟨1, Lib.hid rfl, by go_num, rfl, Lib.hid ⟨fun _ => h1, by omega, by omega⟩⟩)
      | 1, hi, hp =>
        have g1 := hp.out.1 (by omega)
        first
          | (exfalso; rw [h1] at g1; cases g1; done)
          | (go_wp2
             first
               | (go_ret; exact ⟨by rw [HR.out]; rfl, rfl⟩)
               | (go_roundg 1
                  case measure => have := hi.out; omega
                  case rel => exact ⟨2, Lib.hid rfl, by go_num, rfl, Lib.hid ⟨fun _ => h1, fun _ => h2, by omega⟩⟩))
      | 2, hi, hp =>
        have g1 := hp.out.1 (by omega)
        have g2 := hp.out.2.1 (by omega)
        first
          | (exfalso; rw [h1] at g1; cases g1; done)
          | (exfalso; rw [h2] at g2; cases g2; done)
          | (go_wp2
             first
               | (go_ret; exact ⟨by rw [HR.out]; rfl, rfl⟩)
               | (go_roundg 0
                  case measure => have := hi.out; omega
                  case rel => exact ⟨3, Lib.hid rfl, by go_num, rfl, Lib.hid ⟨fun _ => h1, fun _ => h2, fun _ => h3⟩⟩))
      | 3, hi, hp =>
        have g1 := hp.out.1 (by omega)
        have g2 := hp.out.2.1 (by omega)
        have g3 := hp.out.2.2 (by omega)
        first
          | (exfalso; rw [h1] at g1; cases g1; done)
          | (exfalso; rw [h2] at g2; cases g2; done)
          | (exfalso; rw [h3] at g3; cases g3; done)
          | (go_wp2
             go_ret
             exact ⟨by rw [HR.out]; rfl, rfl⟩)
      | i + 4, hi, _ => exact absurd hi.out (by omega)

def roadV (f : Nat) : Value := .func (.func f) #[] #[]
end Go.Proofs.YtipinmbpdgjalaaGreatDoor.Hi
