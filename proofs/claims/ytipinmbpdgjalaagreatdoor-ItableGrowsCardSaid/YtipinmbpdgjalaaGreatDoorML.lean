/- Leaves: tests on bytes, flags and numbers. -/
import Derived.Test.YtipinmbpdgjalaaGreatDoorProg
import Derived.WalkKit
import Derived.WalkLawsBesides
import Derived.WalkSpells
import Derived.Lib.Hide
import Derived.Below
import Derived.KernelRfl
import Derived.LoopTactic
set_option maxRecDepth 100000
set_option linter.unusedVariables false
set_option linter.unusedSimpArgs false
namespace Go.Proofs.YtipinmbpdgjalaaGreatDoor.Lf
open Go.RowKit

/-- f has all flags of s. -/
def hasAll (f s : Int) : Bool := bits .and .i64 f s == s

theorem flags_all (f s : Int) (w : World) :
    Calls Tryz.prog 113 #[.int .i64 f, .int .i64 s] w fun e w' => e = .returned (.bool (hasAll f s)) ∧ w = w' := by
  go_enter Tryz.func113, Tryz.ntmps113
  go_wp2
  go_ret
  exact ⟨rfl, rfl⟩

theorem ret_bool {a b : Bool} (h : a = b) : Ending.returned (.bool a) = .returned (.bool b) := by rw [h]
theorem ret_int {k : IntKind} {a b : Int} (h : a = b) : Ending.returned (.int k a) = .returned (.int k b) := by rw [h]

theorem within (n lo hi : Int) (w : World) :
    Calls Tryz.prog 118 #[.int .i64 n, .int .i64 lo, .int .i64 hi] w fun e w' => e = .returned (.bool (decide (lo ≤ n) && decide (n ≤ hi))) ∧ w = w' := by
  by_cases h : lo ≤ n
  all_goals
    go_enter Tryz.func118, Tryz.ntmps118
    go_wp2
    go_ret
    exact ⟨ret_bool (by rw [Bool.eq_iff_iff]; simp <;> omega), rfl⟩

/-- A class may have these flags. -/
def classFlags (f : Int) : Bool :=
  !(bits .andNot .i64 f 1585 != 0) && !hasAll f 1040 && !(hasAll f 512 && (!hasAll f 1024 || (bits .and .i64 f 48 != 0)))

theorem CheckClass (f : Int) (w : World) :
    Calls Tryz.prog 101 #[.int .i64 f] w fun e w' => e = .returned (.int .i64 (if classFlags f then 0 else 1)) ∧ w = w' := by
  have key : ∀ b1 b2 b3 b4 b5 : Bool, (hasAll f 512) = b1 → (bits .andNot .i64 f 1585 != 0) = b2 → hasAll f 1040 = b3 → hasAll f 1024 = b4 → (bits .and .i64 f 48 != 0) = b5 →
      Calls Tryz.prog 101 #[.int .i64 f] w fun e w' => e = .returned (.int .i64 (if (!b2 && !b3 && !(b1 && (!b4 || b5))) = true then 0 else 1)) ∧ w = w' := by
    intro b1 b2 b3 b4 b5 h1 h2 h3 h4 h5
    cases b2
    · cases b3
      · cases b1
        · go_enter Tryz.func101, Tryz.ntmps101
          go_wp2_with (go_at_call 113; refine (flags_all _ _ _).mono ?_; rintro e w' ⟨rfl, rfl⟩)
          go_ret
          exact ⟨by simp, rfl⟩
        · cases b4
          · go_enter Tryz.func101, Tryz.ntmps101
            go_wp2_with (go_at_call 113; refine (flags_all _ _ _).mono ?_; rintro e w' ⟨rfl, rfl⟩)
            go_ret
            exact ⟨by simp, rfl⟩
          · cases b5
            all_goals
              go_enter Tryz.func101, Tryz.ntmps101
              go_wp2_with (go_at_call 113; refine (flags_all _ _ _).mono ?_; rintro e w' ⟨rfl, rfl⟩)
              go_ret
              exact ⟨by simp, rfl⟩
      · go_enter Tryz.func101, Tryz.ntmps101
        go_wp2_with (go_at_call 113; refine (flags_all _ _ _).mono ?_; rintro e w' ⟨rfl, rfl⟩)
        go_ret
        exact ⟨by simp, rfl⟩
    · go_enter Tryz.func101, Tryz.ntmps101
      go_wp2_with (go_at_call 113; refine (flags_all _ _ _).mono ?_; rintro e w' ⟨rfl, rfl⟩)
      go_ret
      exact ⟨by simp, rfl⟩
  exact key _ _ _ _ _ rfl rfl rfl rfl rfl

/-- A byte may stand in a part. -/
def letterB (c : Int) (first : Bool) : Bool :=
  (decide (97 ≤ c) && decide (c ≤ 122)) || (decide (65 ≤ c) && decide (c ≤ 90)) || c == 95 || c == 36 || (!first && decide (48 ≤ c) && decide (c ≤ 57))

theorem letter (c : Int) (first : Bool) (w : World) (h0 : 0 ≤ c) (h1 : c ≤ 255) :
    Calls Tryz.prog 124 #[.int .u8 c, .bool first] w fun e w' => e = .returned (.bool (letterB c first)) ∧ w = w' := by
  cases e1 : (c == 95) <;> cases e2 : (c == 36) <;> cases first
  all_goals
    have f1 := e1
    have f2 := e2
    simp only [beq_iff_eq, beq_eq_false_iff_ne] at f1 f2
    go_enter Tryz.func124, Tryz.ntmps124
    go_wp2
    all_goals
      go_ret
      refine ⟨ret_bool ?_, rfl⟩
      unfold letterB
      simp only [e1, e2]
      rw [Bool.eq_iff_iff]
      simp <;> omega
end Go.Proofs.YtipinmbpdgjalaaGreatDoor.Lf
/- Leaves, second part: a method's flags; a part of a name; instructions' operands. -/
set_option maxRecDepth 100000
set_option linter.unusedVariables false
set_option linter.unusedSimpArgs false
namespace Go.Proofs.YtipinmbpdgjalaaGreatDoor.Lf
open Go.RowKit

/-- Is it '<init>'? -/
def initB (name : ByteArray) : Bool := name.toList == [60, 105, 110, 105, 116, 62]

/-- A method may have these flags (of an interface or not; called '<init>' or not). -/
def methodFlags (f : Int) (iface init : Bool) : Bool :=
  !(bits .andNot .i64 f 1055 != 0) && !(bits .and .i64 (bits .and .i64 f 7) (wrap64 (bits .and .i64 f 7 - 1)) != 0) &&
  !(hasAll f 1024 && (bits .and .i64 f 26 != 0)) &&
  !(iface && (bits .and .i64 (bits .and .i64 f 7) 3 == 0 || (bits .and .i64 f 16 != 0) || init)) &&
  !(init && (bits .and .i64 f 1048 != 0))

set_option maxHeartbeats 4000000 in
theorem CheckMethod (f : Int) (iface : Bool) (name : ByteArray) (w : World) :
    Calls Tryz.prog 105 #[.int .i64 f, .bool iface, .string name] w fun e w' => e = .returned (.int .i64 (if methodFlags f iface (initB name) then 0 else 1)) ∧ w = w' := by
  have key : ∀ b1 b2 b3 b4 b5 b6 b7 init : Bool, (bits .andNot .i64 f 1055 != 0) = b1 → (bits .and .i64 (bits .and .i64 f 7) (wrap64 (bits .and .i64 f 7 - 1)) != 0) = b2 →
      hasAll f 1024 = b3 → (bits .and .i64 f 26 != 0) = b4 → (bits .and .i64 (bits .and .i64 f 7) 3 == 0) = b5 → (bits .and .i64 f 16 != 0) = b6 → (bits .and .i64 f 1048 != 0) = b7 → (name.toList == [60, 105, 110, 105, 116, 62]) = init →
      Calls Tryz.prog 105 #[.int .i64 f, .bool iface, .string name] w fun e w' => e = .returned (.int .i64 (if (!b1 && !b2 && !(b3 && b4) && !(iface && (b5 || b6 || init)) && !(init && b7)) = true then 0 else 1)) ∧ w = w' := by
    intro b1 b2 b3 b4 b5 b6 b7 init h1 h2 h3 h4 h5 h6 h7 hi
    cases b1
    case true => (go_enter Tryz.func105, Tryz.ntmps105; go_wp2_with (go_at_call 113; refine (flags_all _ _ _).mono ?_; rintro e w' ⟨rfl, rfl⟩); go_ret; exact ⟨by simp, rfl⟩)
    cases b2
    case true => (go_enter Tryz.func105, Tryz.ntmps105; go_wp2_with (go_at_call 113; refine (flags_all _ _ _).mono ?_; rintro e w' ⟨rfl, rfl⟩); go_ret; exact ⟨by simp, rfl⟩)
    have tail : ∀ c, (b3 && b4) = c → c = false → Calls Tryz.prog 105 #[.int .i64 f, .bool iface, .string name] w fun e w' => e = .returned (.int .i64 (if (!(iface && (b5 || b6 || init)) && !(init && b7)) = true then 0 else 1)) ∧ w = w' := by
      intro c h34 hc
      subst hc
      cases b3
      case true =>
        cases b4
        case true => cases h34
        clear h34
        (cases iface with | false => (cases init with | false => (go_enter Tryz.func105, Tryz.ntmps105; go_wp2_with (go_at_call 113; refine (flags_all _ _ _).mono ?_; rintro e w' ⟨rfl, rfl⟩); go_ret; exact ⟨by simp, rfl⟩) | true => (cases b7 <;> (go_enter Tryz.func105, Tryz.ntmps105; go_wp2_with (go_at_call 113; refine (flags_all _ _ _).mono ?_; rintro e w' ⟨rfl, rfl⟩); go_ret; exact ⟨by simp, rfl⟩))) | true => (cases b5 with | true => (go_enter Tryz.func105, Tryz.ntmps105; go_wp2_with (go_at_call 113; refine (flags_all _ _ _).mono ?_; rintro e w' ⟨rfl, rfl⟩); go_ret; exact ⟨by simp, rfl⟩) | false => (cases b6 with | true => (go_enter Tryz.func105, Tryz.ntmps105; go_wp2_with (go_at_call 113; refine (flags_all _ _ _).mono ?_; rintro e w' ⟨rfl, rfl⟩); go_ret; exact ⟨by simp, rfl⟩) | false => (cases init <;> (go_enter Tryz.func105, Tryz.ntmps105; go_wp2_with (go_at_call 113; refine (flags_all _ _ _).mono ?_; rintro e w' ⟨rfl, rfl⟩); go_ret; exact ⟨by simp, rfl⟩)))))
      clear h34
      (cases iface with | false => (cases init with | false => (go_enter Tryz.func105, Tryz.ntmps105; go_wp2_with (go_at_call 113; refine (flags_all _ _ _).mono ?_; rintro e w' ⟨rfl, rfl⟩); go_ret; exact ⟨by simp, rfl⟩) | true => (cases b7 <;> (go_enter Tryz.func105, Tryz.ntmps105; go_wp2_with (go_at_call 113; refine (flags_all _ _ _).mono ?_; rintro e w' ⟨rfl, rfl⟩); go_ret; exact ⟨by simp, rfl⟩))) | true => (cases b5 with | true => (go_enter Tryz.func105, Tryz.ntmps105; go_wp2_with (go_at_call 113; refine (flags_all _ _ _).mono ?_; rintro e w' ⟨rfl, rfl⟩); go_ret; exact ⟨by simp, rfl⟩) | false => (cases b6 with | true => (go_enter Tryz.func105, Tryz.ntmps105; go_wp2_with (go_at_call 113; refine (flags_all _ _ _).mono ?_; rintro e w' ⟨rfl, rfl⟩); go_ret; exact ⟨by simp, rfl⟩) | false => (cases init <;> (go_enter Tryz.func105, Tryz.ntmps105; go_wp2_with (go_at_call 113; refine (flags_all _ _ _).mono ?_; rintro e w' ⟨rfl, rfl⟩); go_ret; exact ⟨by simp, rfl⟩)))))
    cases b3
    case false => simpa using tail _ rfl rfl
    cases b4
    case true => (go_enter Tryz.func105, Tryz.ntmps105; go_wp2_with (go_at_call 113; refine (flags_all _ _ _).mono ?_; rintro e w' ⟨rfl, rfl⟩); go_ret; exact ⟨by simp, rfl⟩)
    simpa using tail _ rfl rfl
  exact key _ _ _ _ _ _ _ _ rfl rfl rfl rfl rfl rfl rfl rfl
/-- The bytes from k on may stand so (k is no beginning). -/
def partFrom : List UInt8 → Bool
  | [] => true
  | c :: r => letterB c.toNat false && partFrom r

/-- A text is a part of a name. -/
def partB (s : List UInt8) : Bool :=
  match s with
  | [] => false
  | c :: r => letterB c.toNat true && partFrom r

theorem partFrom_iff (l : List UInt8) : partFrom l = true ↔ ∀ i (h : i < l.length), letterB l[i].toNat false = true := by
  induction l with
  | nil => simp [partFrom]
  | cons c r ih =>
    simp only [partFrom, Bool.and_eq_true, ih]
    constructor
    · rintro ⟨h1, h2⟩ i hi
      cases i with
      | zero => exact h1
      | succ i => exact h2 i (by simpa using hi)
    · intro h
      exact ⟨h 0 (by simp), fun i hi => h (i + 1) (by simpa using hi)⟩

theorem partB_iff (l : List UInt8) : partB l = true ↔ 0 < l.length ∧ ∀ i (h : i < l.length), letterB l[i].toNat (decide (i = 0)) = true := by
  cases l with
  | nil => simp [partB]
  | cons c r =>
    simp only [partB, Bool.and_eq_true, partFrom_iff]
    constructor
    · rintro ⟨h1, h2⟩
      refine ⟨by simp, fun i hi => ?_⟩
      cases i with
      | zero => exact h1
      | succ i => exact h2 i (by simpa using hi)
    · rintro ⟨_, h⟩
      exact ⟨h 0 (by simp), fun i hi => h (i + 1) (by simpa using hi)⟩

theorem part (s : ByteArray) (w : World) (hs : s.size ≤ maxLen) :
    Calls Tryz.prog 112 #[.string s] w fun e w' => e = .returned (.bool (partB s.data.toList)) ∧ w = w' := by
  unfold maxLen at hs
  have HP := Lib.hid (partB_iff s.data.toList)
  go_enter Tryz.func112, Tryz.ntmps112
  go_wp2_with fail
  go_loop [6] (fun i => ∃ k : Nat, k ≤ s.size ∧ i = .int .i64 k ∧ Hid (∀ j (h : j < s.data.toList.length), j < k → letterB s.data.toList[j].toNat (decide (j = 0)) = true)) (fun i => s.size - (intOf i).toNat)
  case atStart => exact ⟨0, Nat.zero_le _, rfl, fun j h hj => by omega⟩
  case round =>
    obtain ⟨k, hk, rfl, hb⟩ := hrel
    by_cases hlt : k < s.size
    · have hlt' : k < s.data.toList.length := by simpa using hlt
      have hb0 : 0 ≤ (s[k].toNat : Int) := by omega
      have hb1 : (s[k].toNat : Int) ≤ 255 := by have := s[k].toNat_lt; omega
      have hsk : s.data.toList[k] = s[k] := rfl
      have hdec : ((k : Int) == 0) = decide (k = 0) := by rw [Bool.eq_iff_iff]; simp
      have HD := Lib.hid hdec
      clear hdec
      cases hL : letterB (s[k].toNat : Int) ((k : Int) == 0)
      · have F : Hid (partB s.data.toList = false) := by
          refine Lib.hid ?_
          rw [Bool.eq_false_iff]
          intro h
          have h2 := (HP.out.1 h).2 k hlt'
          rw [hsk, ← HD.out, hL] at h2
          cases h2
        go_wp2_with (go_at_call 124; refine (letter _ _ _ hb0 hb1).mono ?_; rintro e w' ⟨rfl, rfl⟩)
        go_ret
        exact ⟨by rw [F.out]; rfl, rfl⟩
      · have F : Hid (∀ j (h : j < s.data.toList.length), j < k + 1 → letterB s.data.toList[j].toNat (decide (j = 0)) = true) := by
          refine Lib.hid fun j h hj => ?_
          by_cases e : j = k
          · subst e
            rw [hsk, ← HD.out, hL]
          · exact hb.out j h (by omega)
        go_wp2_with (go_at_call 124; refine (letter _ _ _ hb0 hb1).mono ?_; rintro e w' ⟨rfl, rfl⟩)
        go_round
        case rel => exact ⟨k + 1, by omega, by go_num, F⟩
        case measure => simp [intOf]; omega
    · obtain rfl : k = s.size := by omega
      by_cases h0 : s.size = 0
      · have hd : s = ⟨#[]⟩ := by
          cases s with | mk d => exact congrArg ByteArray.mk (Array.eq_empty_of_size_eq_zero h0)
        subst hd
        go_wp2
        go_ret
        exact ⟨rfl, rfl⟩
      · have F : Hid (partB s.data.toList = true) := Lib.hid (HP.out.2 ⟨by simp; omega, fun i h => hb.out i h (by simpa using h)⟩)
        have hne : s.toList.isEmpty = false := by
          rw [ByteArray.toList_eq, List.isEmpty_eq_false_iff, ← List.length_pos_iff]
          simp; omega
        have hne' : (!s.toList.isEmpty) = true := by rw [hne]; rfl
        go_wp2
        go_ret
        exact ⟨by rw [F.out]; rfl, rfl⟩
end Go.Proofs.YtipinmbpdgjalaaGreatDoor.Lf
/- The table of instructions. -/
set_option maxRecDepth 100000
set_option linter.unusedVariables false
set_option linter.unusedSimpArgs false
namespace Go.Proofs.YtipinmbpdgjalaaGreatDoor.Lf
open Go.RowKit

/-- The table's cells: a word, a kind of operand, forty-one times. -/
def specCells : Array Value := #[.string ⟨#[]⟩, .int .i64 0, .string ⟨#[105, 99, 111, 110, 115, 116]⟩, .int .i64 1, .string ⟨#[105, 108, 111, 97, 100]⟩, .int .i64 2, .string ⟨#[105, 115, 116, 111, 114, 101]⟩, .int .i64 2, .string ⟨#[97, 108, 111, 97, 100]⟩, .int .i64 2, .string ⟨#[97, 115, 116, 111, 114, 101]⟩, .int .i64 2, .string ⟨#[110, 117, 108, 108]⟩, .int .i64 0, .string ⟨#[105, 97, 100, 100]⟩, .int .i64 0, .string ⟨#[105, 115, 117, 98]⟩, .int .i64 0, .string ⟨#[105, 109, 117, 108]⟩, .int .i64 0, .string ⟨#[105, 100, 105, 118]⟩, .int .i64 0, .string ⟨#[103, 111, 116, 111]⟩, .int .i64 3, .string ⟨#[105, 102, 101, 113]⟩, .int .i64 3, .string ⟨#[105, 102, 110, 101]⟩, .int .i64 3, .string ⟨#[105, 102, 108, 116]⟩, .int .i64 3, .string ⟨#[105, 102, 99, 109, 112, 101, 113]⟩, .int .i64 3, .string ⟨#[105, 102, 99, 109, 112, 108, 116]⟩, .int .i64 3, .string ⟨#[105, 102, 97, 99, 109, 112, 101, 113]⟩, .int .i64 3, .string ⟨#[105, 102, 110, 117, 108, 108]⟩, .int .i64 3, .string ⟨#[112, 111, 112]⟩, .int .i64 0, .string ⟨#[100, 117, 112]⟩, .int .i64 0, .string ⟨#[115, 119, 97, 112]⟩, .int .i64 0, .string ⟨#[110, 101, 119]⟩, .int .i64 4, .string ⟨#[110, 101, 119, 97, 114, 114, 97, 121]⟩, .int .i64 6, .string ⟨#[109, 117, 108, 116, 105, 110, 101, 119]⟩, .int .i64 7, .string ⟨#[97, 114, 114, 97, 121, 108, 101, 110, 103, 116, 104]⟩, .int .i64 0, .string ⟨#[105, 97, 108, 111, 97, 100]⟩, .int .i64 0, .string ⟨#[105, 97, 115, 116, 111, 114, 101]⟩, .int .i64 0, .string ⟨#[97, 97, 108, 111, 97, 100]⟩, .int .i64 0, .string ⟨#[97, 97, 115, 116, 111, 114, 101]⟩, .int .i64 0, .string ⟨#[99, 104, 101, 99, 107, 99, 97, 115, 116]⟩, .int .i64 5, .string ⟨#[105, 110, 115, 116, 97, 110, 99, 101, 111, 102]⟩, .int .i64 5, .string ⟨#[105, 110, 118, 111, 107, 101, 118, 105, 114, 116, 117, 97, 108]⟩, .int .i64 8, .string ⟨#[105, 110, 118, 111, 107, 101, 105, 110, 116, 101, 114, 102, 97, 99, 101]⟩, .int .i64 8, .string ⟨#[105, 110, 118, 111, 107, 101, 115, 112, 101, 99, 105, 97, 108]⟩, .int .i64 8, .string ⟨#[105, 110, 118, 111, 107, 101, 115, 116, 97, 116, 105, 99]⟩, .int .i64 8, .string ⟨#[105, 114, 101, 116, 117, 114, 110]⟩, .int .i64 0, .string ⟨#[97, 114, 101, 116, 117, 114, 110]⟩, .int .i64 0, .string ⟨#[114, 101, 116, 117, 114, 110]⟩, .int .i64 0, .string ⟨#[112, 114, 105, 110, 116]⟩, .int .i64 0, .string ⟨#[112, 114, 105, 110, 116, 99, 108, 97, 115, 115]⟩, .int .i64 0]

/-- The kind of an instruction's operand. -/
def kindAt (k : Nat) : Int := [0, 1, 2, 2, 2, 2, 0, 0, 0, 0, 0, 3, 3, 3, 3, 3, 3, 3, 3, 0, 0, 0, 4, 6, 7, 0, 0, 0, 0, 0, 5, 5, 8, 8, 8, 8, 0, 0, 0, 0, 0].getD k 0

/-- Its kind, or -1: there is no such instruction. -/
def operandOf (op : Int) : Int := if 1 ≤ op ∧ op ≤ 40 then kindAt op.toNat else -1

def wordOf (op : Int) : ByteArray := match specCells.getD (2 * op.toNat) undef with | .string s => s | _ => ⟨#[]⟩

theorem spec_info : (Tryz.prog.info? 188).map (·.size) = some specCells.size := by kernel_rfl

theorem spec_row (w : World) (k : Nat) : ((w.alloc (.cells Tryz.zeroCells188 188))).heap[w.heap.size]? = some (.cells Tryz.zeroCells188 188 (0, 0)) := heap_alloc_new w _

set_option maxHeartbeats 4000000 in
theorem specs (w : World) : Calls Tryz.prog 127 #[] w fun e w' => e = .returned (.agg specCells) ∧ Below w.heap.size w w' := by
  have key : Calls Tryz.prog 127 #[] w fun e w' => e = .returned (.agg specCells) ∧ w' = (w.alloc (.cells Tryz.zeroCells188 188)).setRow w.heap.size specCells := by
    go_enter Tryz.func127, Tryz.ntmps127
    go_wp2_with (refine wpList_store_row rfl 188 _ _ rfl w.heap.size specCells rfl rfl 188 Tryz.zeroCells188 (heap_alloc_new w _) spec_info (by kernel_rfl) (by kernel_rfl) ?_)
    refine bodyPost_ret (v := .agg specCells) (results_cell_row rfl _ _ w.heap.size 188 specCells (0, 0) _ rfl (setRow_heap _ _ _ _ _ _ (heap_alloc_new w _)) Tryz.underlying188 rfl spec_info) rfl ⟨rfl, rfl⟩
  refine key.mono fun e w' ⟨h1, h2⟩ => ⟨h1, ?_⟩
  subst h2
  exact ⟨rfl, rfl, rfl, by simp, fun k hk => by
    simp only [World.setRow, Array.getElem?_modify]
    rw [if_neg (by omega)]
    exact Below.heap_alloc _ _ _ hk⟩

/-- What stands at a place of the table. -/
theorem spec_at (k : Nat) (h : k < 41) (w : World) : (Instr.index 188 (.agg specCells) (.int .i64 k)).run Tryz.prog w = .ok (.agg #[.string (wordOf k), .int .i64 (kindAt k)]) w :=
  match k, h with
  | 0, _ => by kernel_rfl
  | 1, _ => by kernel_rfl
  | 2, _ => by kernel_rfl
  | 3, _ => by kernel_rfl
  | 4, _ => by kernel_rfl
  | 5, _ => by kernel_rfl
  | 6, _ => by kernel_rfl
  | 7, _ => by kernel_rfl
  | 8, _ => by kernel_rfl
  | 9, _ => by kernel_rfl
  | 10, _ => by kernel_rfl
  | 11, _ => by kernel_rfl
  | 12, _ => by kernel_rfl
  | 13, _ => by kernel_rfl
  | 14, _ => by kernel_rfl
  | 15, _ => by kernel_rfl
  | 16, _ => by kernel_rfl
  | 17, _ => by kernel_rfl
  | 18, _ => by kernel_rfl
  | 19, _ => by kernel_rfl
  | 20, _ => by kernel_rfl
  | 21, _ => by kernel_rfl
  | 22, _ => by kernel_rfl
  | 23, _ => by kernel_rfl
  | 24, _ => by kernel_rfl
  | 25, _ => by kernel_rfl
  | 26, _ => by kernel_rfl
  | 27, _ => by kernel_rfl
  | 28, _ => by kernel_rfl
  | 29, _ => by kernel_rfl
  | 30, _ => by kernel_rfl
  | 31, _ => by kernel_rfl
  | 32, _ => by kernel_rfl
  | 33, _ => by kernel_rfl
  | 34, _ => by kernel_rfl
  | 35, _ => by kernel_rfl
  | 36, _ => by kernel_rfl
  | 37, _ => by kernel_rfl
  | 38, _ => by kernel_rfl
  | 39, _ => by kernel_rfl
  | 40, _ => by kernel_rfl
  | n + 41, h => absurd h (by omega)

theorem known (op : Int) (w : World) :
    Calls Tryz.prog 126 #[.int .i64 op] w fun e w' => e = .returned (.bool (decide (1 ≤ op ∧ op ≤ 40))) ∧ Below w.heap.size w w' := by
  by_cases h : 1 ≤ op
  · go_enter Tryz.func126, Tryz.ntmps126
    go_wp2_with (go_at_call 127; refine (specs _).mono ?_; rintro e w' ⟨rfl, hb⟩)
    go_ret
    exact ⟨ret_bool (by rw [Bool.eq_iff_iff]; simp <;> omega), by assumption⟩
  · go_enter Tryz.func126, Tryz.ntmps126
    go_wp2_with (go_at_call 127; refine (specs _).mono ?_; rintro e w' ⟨rfl, hb⟩)
    go_ret
    exact ⟨ret_bool (by rw [Bool.eq_iff_iff]; simp <;> omega), Below.refl _ _⟩

theorem Operand (op : Int) (w : World) :
    Calls Tryz.prog 119 #[.int .i64 op] w fun e w' => e = .returned (.int .i64 (operandOf op)) ∧ Below w.heap.size w w' := by
  by_cases h : 1 ≤ op ∧ op ≤ 40
  · obtain ⟨k, rfl⟩ := Int.eq_ofNat_of_zero_le (show 0 ≤ op by omega)
    have HAT := Lib.hid (spec_at k (by omega))
    have hd : decide (1 ≤ (k : Int) ∧ (k : Int) ≤ 40) = true := decide_eq_true h
    have hk0 : 0 ≤ (k : Int) := by omega
    have hk1 : (k : Int) < 41 := by omega
    have HK : Hid (operandOf k = kindAt k) := Lib.hid (if_pos h)
    clear h
    go_enter Tryz.func119, Tryz.ntmps119
    go_wp2_with fail
    refine (known _ _).mono ?_
    rintro e w1 ⟨rfl, hb1⟩
    rw [hd]
    go_wp2_with fail
    refine (specs _).mono ?_
    rintro e w2 ⟨rfl, hb2⟩
    have hat := HAT.out
    have hf : ∀ (s : ByteArray) (n : Int) (w : World), (Instr.field 187 (.agg #[.string s, .int .i64 n]) 1).run Tryz.prog w = .ok (.int .i64 n) w := fun _ _ _ => by kernel_rfl
    go_wp2
    go_ret
    exact ⟨by rw [HK.out]; rfl, hb1.trans (hb2.mono hb1.size)⟩
  · have hd : decide (1 ≤ op ∧ op ≤ 40) = false := decide_eq_false h
    have HK : Hid (operandOf op = -1) := Lib.hid (if_neg h)
    clear h
    go_enter Tryz.func119, Tryz.ntmps119
    go_wp2_with fail
    refine (known _ _).mono ?_
    rintro e w1 ⟨rfl, hb1⟩
    rw [hd]
    go_wp2
    go_ret
    exact ⟨by rw [HK.out]; rfl, hb1⟩
end Go.Proofs.YtipinmbpdgjalaaGreatDoor.Lf
