/- Leaves, second part: a method's flags; a part of a name; instructions' operands. -/
import Derived.Test.YtmpkdgankficeaaDoorLf
import Derived.LoopTactic
set_option maxRecDepth 100000
set_option linter.unusedVariables false
set_option linter.unusedSimpArgs false
namespace Go.Proofs.YtmpkdgankficeaaDoor.Lf
open Go.RowKit

/-- Is it '<init>'? -/
def initB (name : ByteArray) : Bool := name.toList == [60, 105, 110, 105, 116, 62]

/-- A method may have these flags (of an interface or not; called '<init>' or not). -/
def methodFlags (f : Int) (iface init : Bool) : Bool :=
  !(bits .andNot .i64 f 1055 != 0) && !(bits .and .i64 (bits .and .i64 f 7) (wrap64 (bits .and .i64 f 7 - 1)) != 0) &&
  !(hasAll f 1024 && (bits .and .i64 f 26 != 0)) &&
  !(iface && (bits .and .i64 (bits .and .i64 f 7) 3 == 0 || (bits .and .i64 f 16 != 0) || init)) &&
  !(init && (bits .and .i64 f 1048 != 0))

set_option maxHeartbeats 4000000 in
theorem CheckMethod (f : Int) (iface : Bool) (name : ByteArray) (w : World) :
    Calls Tryd.prog 68 #[.int .i64 f, .bool iface, .string name] w fun e w' => e = .returned (.int .i64 (if methodFlags f iface (initB name) then 0 else 1)) ∧ w = w' := by
  have key : ∀ b1 b2 b3 b4 b5 b6 b7 init : Bool, (bits .andNot .i64 f 1055 != 0) = b1 → (bits .and .i64 (bits .and .i64 f 7) (wrap64 (bits .and .i64 f 7 - 1)) != 0) = b2 →
      hasAll f 1024 = b3 → (bits .and .i64 f 26 != 0) = b4 → (bits .and .i64 (bits .and .i64 f 7) 3 == 0) = b5 → (bits .and .i64 f 16 != 0) = b6 → (bits .and .i64 f 1048 != 0) = b7 → (name.toList == [60, 105, 110, 105, 116, 62]) = init →
      Calls Tryd.prog 68 #[.int .i64 f, .bool iface, .string name] w fun e w' => e = .returned (.int .i64 (if (!b1 && !b2 && !(b3 && b4) && !(iface && (b5 || b6 || init)) && !(init && b7)) = true then 0 else 1)) ∧ w = w' := by
    intro b1 b2 b3 b4 b5 b6 b7 init h1 h2 h3 h4 h5 h6 h7 hi
    cases b1
    case true => (go_enter Tryd.func68, Tryd.ntmps68; go_wp2_with (go_at_call 79; refine (flags_all _ _ _).mono ?_; rintro e w' ⟨rfl, rfl⟩); go_ret; exact ⟨by simp, rfl⟩)
    cases b2
    case true => (go_enter Tryd.func68, Tryd.ntmps68; go_wp2_with (go_at_call 79; refine (flags_all _ _ _).mono ?_; rintro e w' ⟨rfl, rfl⟩); go_ret; exact ⟨by simp, rfl⟩)
    have tail : ∀ c, (b3 && b4) = c → c = false → Calls Tryd.prog 68 #[.int .i64 f, .bool iface, .string name] w fun e w' => e = .returned (.int .i64 (if (!(iface && (b5 || b6 || init)) && !(init && b7)) = true then 0 else 1)) ∧ w = w' := by
      intro c h34 hc
      subst hc
      cases b3
      case true =>
        cases b4
        case true => cases h34
        clear h34
        (cases iface with | false => (cases init with | false => (go_enter Tryd.func68, Tryd.ntmps68; go_wp2_with (go_at_call 79; refine (flags_all _ _ _).mono ?_; rintro e w' ⟨rfl, rfl⟩); go_ret; exact ⟨by simp, rfl⟩) | true => (cases b7 <;> (go_enter Tryd.func68, Tryd.ntmps68; go_wp2_with (go_at_call 79; refine (flags_all _ _ _).mono ?_; rintro e w' ⟨rfl, rfl⟩); go_ret; exact ⟨by simp, rfl⟩))) | true => (cases b5 with | true => (go_enter Tryd.func68, Tryd.ntmps68; go_wp2_with (go_at_call 79; refine (flags_all _ _ _).mono ?_; rintro e w' ⟨rfl, rfl⟩); go_ret; exact ⟨by simp, rfl⟩) | false => (cases b6 with | true => (go_enter Tryd.func68, Tryd.ntmps68; go_wp2_with (go_at_call 79; refine (flags_all _ _ _).mono ?_; rintro e w' ⟨rfl, rfl⟩); go_ret; exact ⟨by simp, rfl⟩) | false => (cases init <;> (go_enter Tryd.func68, Tryd.ntmps68; go_wp2_with (go_at_call 79; refine (flags_all _ _ _).mono ?_; rintro e w' ⟨rfl, rfl⟩); go_ret; exact ⟨by simp, rfl⟩)))))
      clear h34
      (cases iface with | false => (cases init with | false => (go_enter Tryd.func68, Tryd.ntmps68; go_wp2_with (go_at_call 79; refine (flags_all _ _ _).mono ?_; rintro e w' ⟨rfl, rfl⟩); go_ret; exact ⟨by simp, rfl⟩) | true => (cases b7 <;> (go_enter Tryd.func68, Tryd.ntmps68; go_wp2_with (go_at_call 79; refine (flags_all _ _ _).mono ?_; rintro e w' ⟨rfl, rfl⟩); go_ret; exact ⟨by simp, rfl⟩))) | true => (cases b5 with | true => (go_enter Tryd.func68, Tryd.ntmps68; go_wp2_with (go_at_call 79; refine (flags_all _ _ _).mono ?_; rintro e w' ⟨rfl, rfl⟩); go_ret; exact ⟨by simp, rfl⟩) | false => (cases b6 with | true => (go_enter Tryd.func68, Tryd.ntmps68; go_wp2_with (go_at_call 79; refine (flags_all _ _ _).mono ?_; rintro e w' ⟨rfl, rfl⟩); go_ret; exact ⟨by simp, rfl⟩) | false => (cases init <;> (go_enter Tryd.func68, Tryd.ntmps68; go_wp2_with (go_at_call 79; refine (flags_all _ _ _).mono ?_; rintro e w' ⟨rfl, rfl⟩); go_ret; exact ⟨by simp, rfl⟩)))))
    cases b3
    case false => simpa using tail _ rfl rfl
    cases b4
    case true => (go_enter Tryd.func68, Tryd.ntmps68; go_wp2_with (go_at_call 79; refine (flags_all _ _ _).mono ?_; rintro e w' ⟨rfl, rfl⟩); go_ret; exact ⟨by simp, rfl⟩)
    simpa using tail _ rfl rfl
  exact key _ _ _ _ _ _ _ _ rfl rfl rfl rfl rfl rfl rfl rfl
/-- The bytes from k on may stand so (k is no beginning). -/
def partFrom : List UInt8 → Bool
  | [] => true
  | c :: r => letterB c.toNat false && partFrom r

/-- A text is a part of a name. -/
def partB (s : List UInt8) : Bool :=
  match s with
  | [] => false
  | c :: r => letterB c.toNat true && partFrom r

theorem partFrom_iff (l : List UInt8) : partFrom l = true ↔ ∀ i (h : i < l.length), letterB l[i].toNat false = true := by
  induction l with
  | nil => simp [partFrom]
  | cons c r ih =>
    simp only [partFrom, Bool.and_eq_true, ih]
    constructor
    · rintro ⟨h1, h2⟩ i hi
      cases i with
      | zero => exact h1
      | succ i => exact h2 i (by simpa using hi)
    · intro h
      exact ⟨h 0 (by simp), fun i hi => h (i + 1) (by simpa using hi)⟩

theorem partB_iff (l : List UInt8) : partB l = true ↔ 0 < l.length ∧ ∀ i (h : i < l.length), letterB l[i].toNat (decide (i = 0)) = true := by
  cases l with
  | nil => simp [partB]
  | cons c r =>
    simp only [partB, Bool.and_eq_true, partFrom_iff]
    constructor
    · rintro ⟨h1, h2⟩
      refine ⟨by simp, fun i hi => ?_⟩
      cases i with
      | zero => exact h1
      | succ i => exact h2 i (by simpa using hi)
    · rintro ⟨_, h⟩
      exact ⟨h 0 (by simp), fun i hi => h (i + 1) (by simpa using hi)⟩

theorem part (s : ByteArray) (w : World) (hs : s.size ≤ maxLen) :
    Calls Tryd.prog 78 #[.string s] w fun e w' => e = .returned (.bool (partB s.data.toList)) ∧ w = w' := by
  unfold maxLen at hs
  have HP := Lib.hid (partB_iff s.data.toList)
  go_enter Tryd.func78, Tryd.ntmps78
  go_wp2_with fail
  go_loop [6] (fun i => ∃ k : Nat, k ≤ s.size ∧ i = .int .i64 k ∧ Hid (∀ j (h : j < s.data.toList.length), j < k → letterB s.data.toList[j].toNat (decide (j = 0)) = true)) (fun i => s.size - (intOf i).toNat)
  case atStart => exact ⟨0, Nat.zero_le _, rfl, fun j h hj => by omega⟩
  case round =>
    obtain ⟨k, hk, rfl, hb⟩ := hrel
    by_cases hlt : k < s.size
    · have hlt' : k < s.data.toList.length := by simpa using hlt
      have hb0 : 0 ≤ (s[k].toNat : Int) := by omega
      have hb1 : (s[k].toNat : Int) ≤ 255 := by have := s[k].toNat_lt; omega
      have hsk : s.data.toList[k] = s[k] := rfl
      have hdec : ((k : Int) == 0) = decide (k = 0) := by rw [Bool.eq_iff_iff]; simp
      have HD := Lib.hid hdec
      clear hdec
      cases hL : letterB (s[k].toNat : Int) ((k : Int) == 0)
      · have F : Hid (partB s.data.toList = false) := by
          refine Lib.hid ?_
          rw [Bool.eq_false_iff]
          intro h
          have h2 := (HP.out.1 h).2 k hlt'
          rw [hsk, ← HD.out, hL] at h2
          cases h2
        go_wp2_with (go_at_call 91; refine (letter _ _ _ hb0 hb1).mono ?_; rintro e w' ⟨rfl, rfl⟩)
        go_ret
        exact ⟨by rw [F.out]; rfl, rfl⟩
      · have F : Hid (∀ j (h : j < s.data.toList.length), j < k + 1 → letterB s.data.toList[j].toNat (decide (j = 0)) = true) := by
          refine Lib.hid fun j h hj => ?_
          by_cases e : j = k
          · subst e
            rw [hsk, ← HD.out, hL]
          · exact hb.out j h (by omega)
        go_wp2_with (go_at_call 91; refine (letter _ _ _ hb0 hb1).mono ?_; rintro e w' ⟨rfl, rfl⟩)
        go_round
        case rel => exact ⟨k + 1, by omega, by go_num, F⟩
        case measure => simp [intOf]; omega
    · obtain rfl : k = s.size := by omega
      by_cases h0 : s.size = 0
      · have hd : s = ⟨#[]⟩ := by
          cases s with | mk d => exact congrArg ByteArray.mk (Array.eq_empty_of_size_eq_zero h0)
        subst hd
        go_wp2
        go_ret
        exact ⟨rfl, rfl⟩
      · have F : Hid (partB s.data.toList = true) := Lib.hid (HP.out.2 ⟨by simp; omega, fun i h => hb.out i h (by simpa using h)⟩)
        have hne : s.toList.isEmpty = false := by
          rw [ByteArray.toList_eq, List.isEmpty_eq_false_iff, ← List.length_pos_iff]
          simp; omega
        have hne' : (!s.toList.isEmpty) = true := by rw [hne]; rfl
        go_wp2
        go_ret
        exact ⟨by rw [F.out]; rfl, rfl⟩
end Go.Proofs.YtmpkdgankficeaaDoor.Lf
