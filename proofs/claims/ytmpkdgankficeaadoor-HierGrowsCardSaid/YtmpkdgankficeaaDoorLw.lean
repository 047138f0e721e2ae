/- Names: their parts, sound names, packages. -/
import Derived.Test.YtmpkdgankficeaaDoorLv
import Derived.Test.YtmpkdgankficeaaDoorLs
set_option maxRecDepth 100000
set_option linter.unusedVariables false
set_option linter.unusedSimpArgs false
namespace Go.Proofs.YtmpkdgankficeaaDoor.Lf
open Go.RowKit

/-- A text may be the name of a class. -/
def validB (l : List UInt8) : Bool := decide (l.length ≤ 60) && (cutAt 47 l).all partB

/-- A text may be the name of a method. -/
def memberB (s : ByteArray) : Bool := initB s || (decide (s.size ≤ 60) && partB s.data.toList)

theorem Parts (s : ByteArray) (w : World) (hs : s.size ≤ 60) (he : Env w) :
    Calls Tryd.prog 76 #[.string s] w fun e w' => ∃ xs : List ByteArray, e = .returned (.slice (some ⟨w.heap.size, 0, none⟩) xs.length xs.length) ∧
      xs.map (·.data.toList) = cutAt 47 s.data.toList ∧ w' = w.alloc (.cells (xs.map Value.string).toArray 9) := by
  obtain ⟨m, hm⟩ := he
  have hsp := split_cut 47 s.data.toList
  have hd : (Lib.splitB ⟨#[47]⟩ 0 (Lib.countB s ⟨#[47]⟩) s).map (·.data.toList) = cutAt 47 s.data.toList := (Lib.splitB_data _ _ _ _).trans hsp.1
  have hl : Lib.countB s ⟨#[47]⟩ + 1 = (Lib.splitB ⟨#[47]⟩ 0 (Lib.countB s ⟨#[47]⟩) s).length := by
    have h := congrArg List.length hd
    rw [List.length_map] at h
    rw [h, hsp.2]
  have key : Calls Tryd.prog 76 #[.string s] w fun e w' => e = .returned (.slice (some ⟨w.heap.size, 0, none⟩) (Lib.countB s ⟨#[47]⟩ + 1) (Lib.countB s ⟨#[47]⟩ + 1)) ∧
      w' = w.alloc (.cells ((Lib.splitB ⟨#[47]⟩ 0 (Lib.countB s ⟨#[47]⟩) s).map Value.string).toArray 9) := by
    clear hd hl hsp
    go_enter Tryd.func76, Tryd.ntmps76
    go_wp2_with fail
    refine (Tryd.strings_Split s ⟨#[47]⟩ m _ (by omega) hm (by decide)).mono ?_
    rintro e w' ⟨rfl, rfl⟩
    go_wp2
    go_ret
    exact ⟨rfl, rfl⟩
  refine key.mono ?_
  rintro e w' ⟨rfl, rfl⟩
  exact ⟨_, by rw [← hl], hd, rfl⟩

theorem StrRow_alloc (xs : List ByteArray) (w : World) (t : TypeId) (hz : ∀ x ∈ xs, x.size ≤ maxLen) : StrRow (w.alloc (.cells (xs.map Value.string).toArray t)) w.heap.size 0 xs := by
  intro i h
  refine ⟨?_, hz _ (List.getElem_mem h)⟩
  rw [World.cell?_alloc_new]
  simp [h]

theorem pieces_small {xs : List ByteArray} {s : ByteArray} (h : xs.map (·.data.toList) = cutAt 47 s.data.toList) (hs : s.size ≤ 60) : xs.length ≤ 61 ∧ ∀ x ∈ xs, x.size ≤ 60 := by
  constructor
  · have h1 := congrArg List.length h
    rw [List.length_map, (split_cut 47 s.data.toList).2] at h1
    have h2 := Lib.count_le s.data.toList [47]
    have h3 : Lib.count s.data.toList [47] ≤ s.data.toList.length := by
      have : ∀ l : List UInt8, (cutAt 47 l).length ≤ l.length + 1 := by
        intro l
        induction l with
        | nil => simp [cutAt]
        | cons x r ih =>
          unfold cutAt
          split
          · simp; omega
          · cases hc : cutAt 47 r with
            | nil => simp
            | cons q qs => rw [hc] at ih; simp at ih ⊢; omega
      have := this s.data.toList
      rw [(split_cut 47 s.data.toList).2] at this
      omega
    have h4 : s.data.toList.length = s.size := by simp
    omega
  · intro x hx
    have : x.data.toList ∈ cutAt 47 s.data.toList := by rw [← h]; exact List.mem_map.2 ⟨x, hx, rfl⟩
    have := cutAt_le 47 s.data.toList _ this
    simpa using Nat.le_trans this (by simpa using hs)

theorem Valid (s : ByteArray) (w : World) (hs : s.size ≤ maxLen) (he : Env w) :
    Calls Tryd.prog 63 #[.string s] w fun e w' => e = .returned (.bool (validB s.data.toList)) ∧ Below w.heap.size w w' := by
  unfold maxLen at hs
  by_cases h : s.size ≤ 60
  · have hd : decide ((s.size : Int) ≤ 60) = true := by simp; omega
    go_enter Tryd.func63, Tryd.ntmps63
    go_wp2_with fail
    refine (Parts s _ h he).mono ?_
    rintro e w' ⟨xs, rfl, hx, rfl⟩
    obtain ⟨hl, hz⟩ := pieces_small hx h
    have F : Hid (validB s.data.toList = !(xs.any fun s => !partB s.data.toList)) := Lib.hid (by
      unfold validB
      rw [← hx]
      simp only [List.all_map, Array.length_toList]
      rw [show decide (s.data.size ≤ 60) = true from decide_eq_true h, Bool.true_and, List.not_any_eq_all_not]
      simp [Function.comp_def])
    clear hx
    go_wp2_with fail
    refine (ContainsFuncS _ 0 _ xs _ (StrRow_alloc xs w _ fun x hx => by have := hz x hx; unfold maxLen; omega) (by unfold maxLen; omega)).mono ?_
    rintro e w' ⟨rfl, rfl⟩
    generalize (xs.any fun s => !partB s.data.toList) = b at F
    go_wp2
    go_ret
    exact ⟨by rw [F.out]; rfl, (Below.refl _ _).alloc (Nat.le_refl _) _⟩
  · have hd : decide ((s.size : Int) ≤ 60) = false := by simp; omega
    have F : Hid (validB s.data.toList = false) := Lib.hid (by
      unfold validB
      rw [show decide (s.data.toList.length ≤ 60) = false from decide_eq_false (by simpa using h)]
      rfl)
    go_enter Tryd.func63, Tryd.ntmps63
    go_wp2
    go_ret
    exact ⟨by rw [F.out]; rfl, Below.refl _ _⟩

theorem Member (s : ByteArray) (w : World) (hs : s.size ≤ maxLen) :
    Calls Tryd.prog 67 #[.string s] w fun e w' => e = .returned (.bool (memberB s)) ∧ w = w' := by
  have hs' := hs
  unfold maxLen at hs'
  cases hi : (s.toList == [60, 105, 110, 105, 116, 62])
  · by_cases h : s.size ≤ 60
    · have hd : decide ((s.size : Int) ≤ 60) = true := by simp; omega
      have F : Hid (memberB s = partB s.data.toList) := Lib.hid (by unfold memberB initB; rw [hi, decide_eq_true h]; simp)
      go_enter Tryd.func67, Tryd.ntmps67
      go_wp2_with fail
      refine (part s _ hs).mono ?_
      rintro e w' ⟨rfl, rfl⟩
      go_wp2
      go_ret
      exact ⟨by rw [F.out]; rfl, rfl⟩
    · have hd : decide ((s.size : Int) ≤ 60) = false := by simp; omega
      have F : Hid (memberB s = false) := Lib.hid (by unfold memberB initB; rw [hi, decide_eq_false h]; simp)
      go_enter Tryd.func67, Tryd.ntmps67
      go_wp2
      go_ret
      exact ⟨by rw [F.out]; rfl, rfl⟩
  · have F : Hid (memberB s = true) := Lib.hid (by unfold memberB initB; rw [hi]; simp)
    go_enter Tryd.func67, Tryd.ntmps67
    go_wp2
    go_ret
    exact ⟨by rw [F.out]; rfl, rfl⟩
end Go.Proofs.YtmpkdgankficeaaDoor.Lf
