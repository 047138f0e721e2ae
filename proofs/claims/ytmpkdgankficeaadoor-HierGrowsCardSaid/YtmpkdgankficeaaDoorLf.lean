/- Leaves: tests on bytes, flags and numbers. -/
import Derived.Test.YtmpkdgankficeaaDoorProg
import Derived.WalkKit
import Derived.WalkLawsBesides
import Derived.WalkSpells
import Derived.Lib.Hide
import Derived.Below
import Derived.KernelRfl
set_option maxRecDepth 100000
set_option linter.unusedVariables false
set_option linter.unusedSimpArgs false
namespace Go.Proofs.YtmpkdgankficeaaDoor.Lf
open Go.RowKit

/-- f has all flags of s. -/
def hasAll (f s : Int) : Bool := bits .and .i64 f s == s

theorem flags_all (f s : Int) (w : World) :
    Calls Tryd.prog 79 #[.int .i64 f, .int .i64 s] w fun e w' => e = .returned (.bool (hasAll f s)) ∧ w = w' := by
  go_enter Tryd.func79, Tryd.ntmps79
  go_wp2
  go_ret
  exact ⟨rfl, rfl⟩

theorem ret_bool {a b : Bool} (h : a = b) : Ending.returned (.bool a) = .returned (.bool b) := by rw [h]
theorem ret_int {k : IntKind} {a b : Int} (h : a = b) : Ending.returned (.int k a) = .returned (.int k b) := by rw [h]

theorem within (n lo hi : Int) (w : World) :
    Calls Tryd.prog 84 #[.int .i64 n, .int .i64 lo, .int .i64 hi] w fun e w' => e = .returned (.bool (decide (lo ≤ n) && decide (n ≤ hi))) ∧ w = w' := by
  by_cases h : lo ≤ n
  all_goals
    go_enter Tryd.func84, Tryd.ntmps84
    go_wp2
    go_ret
    exact ⟨ret_bool (by rw [Bool.eq_iff_iff]; simp <;> omega), rfl⟩

/-- A class may have these flags. -/
def classFlags (f : Int) : Bool :=
  !(bits .andNot .i64 f 1585 != 0) && !hasAll f 1040 && !(hasAll f 512 && (!hasAll f 1024 || (bits .and .i64 f 48 != 0)))

theorem CheckClass (f : Int) (w : World) :
    Calls Tryd.prog 64 #[.int .i64 f] w fun e w' => e = .returned (.int .i64 (if classFlags f then 0 else 1)) ∧ w = w' := by
  have key : ∀ b1 b2 b3 b4 b5 : Bool, (hasAll f 512) = b1 → (bits .andNot .i64 f 1585 != 0) = b2 → hasAll f 1040 = b3 → hasAll f 1024 = b4 → (bits .and .i64 f 48 != 0) = b5 →
      Calls Tryd.prog 64 #[.int .i64 f] w fun e w' => e = .returned (.int .i64 (if (!b2 && !b3 && !(b1 && (!b4 || b5))) = true then 0 else 1)) ∧ w = w' := by
    intro b1 b2 b3 b4 b5 h1 h2 h3 h4 h5
    cases b2
    · cases b3
      · cases b1
        · go_enter Tryd.func64, Tryd.ntmps64
          go_wp2_with (go_at_call 79; refine (flags_all _ _ _).mono ?_; rintro e w' ⟨rfl, rfl⟩)
          go_ret
          exact ⟨by simp, rfl⟩
        · cases b4
          · go_enter Tryd.func64, Tryd.ntmps64
            go_wp2_with (go_at_call 79; refine (flags_all _ _ _).mono ?_; rintro e w' ⟨rfl, rfl⟩)
            go_ret
            exact ⟨by simp, rfl⟩
          · cases b5
            all_goals
              go_enter Tryd.func64, Tryd.ntmps64
              go_wp2_with (go_at_call 79; refine (flags_all _ _ _).mono ?_; rintro e w' ⟨rfl, rfl⟩)
              go_ret
              exact ⟨by simp, rfl⟩
      · go_enter Tryd.func64, Tryd.ntmps64
        go_wp2_with (go_at_call 79; refine (flags_all _ _ _).mono ?_; rintro e w' ⟨rfl, rfl⟩)
        go_ret
        exact ⟨by simp, rfl⟩
    · go_enter Tryd.func64, Tryd.ntmps64
      go_wp2_with (go_at_call 79; refine (flags_all _ _ _).mono ?_; rintro e w' ⟨rfl, rfl⟩)
      go_ret
      exact ⟨by simp, rfl⟩
  exact key _ _ _ _ _ rfl rfl rfl rfl rfl

/-- A byte may stand in a part. -/
def letterB (c : Int) (first : Bool) : Bool :=
  (decide (97 ≤ c) && decide (c ≤ 122)) || (decide (65 ≤ c) && decide (c ≤ 90)) || c == 95 || c == 36 || (!first && decide (48 ≤ c) && decide (c ≤ 57))

theorem letter (c : Int) (first : Bool) (w : World) (h0 : 0 ≤ c) (h1 : c ≤ 255) :
    Calls Tryd.prog 91 #[.int .u8 c, .bool first] w fun e w' => e = .returned (.bool (letterB c first)) ∧ w = w' := by
  cases e1 : (c == 95) <;> cases e2 : (c == 36) <;> cases first
  all_goals
    have f1 := e1
    have f2 := e2
    simp only [beq_iff_eq, beq_eq_false_iff_ne] at f1 f2
    go_enter Tryd.func91, Tryd.ntmps91
    go_wp2
    all_goals
      go_ret
      refine ⟨ret_bool ?_, rfl⟩
      unfold letterB
      simp only [e1, e2]
      rw [Bool.eq_iff_iff]
      simp <;> omega
end Go.Proofs.YtmpkdgankficeaaDoor.Lf
