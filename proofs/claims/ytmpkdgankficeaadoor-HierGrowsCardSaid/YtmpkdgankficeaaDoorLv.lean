/- Names: their parts, sound names, packages. -/
import Derived.Test.YtmpkdgankficeaaDoorLh
import Derived.Test.YtmpkdgankficeaaDoorShelf
import Derived.Lib.Split
import Derived.Laws.Closers25
set_option maxRecDepth 100000
set_option linter.unusedVariables false
set_option linter.unusedSimpArgs false
namespace Go.Proofs.YtmpkdgankficeaaDoor.Lf
open Go.RowKit

/-- What the library's own variable is: some number. -/
def Env (w : World) : Prop := ∃ m : Int, w.cell? ⟨0, 0, none⟩ = some (.int .i64 m)

theorem Env.below {w w' : World} (h : Env w) (hb : Below w.heap.size w w') : Env w' := by
  obtain ⟨m, hm⟩ := h
  exact ⟨m, (hb.cell (p := ⟨0, 0, none⟩) (World.block_lt_of_cell? w _ hm)).trans hm⟩

/-- The first place of which p holds, or -1. -/
def idxOf {α : Type} (p : α → Bool) (l : List α) : Int := match l.findIdx? p with | some i => i | none => -1

theorem idxOf_hit {α : Type} (p : α → Bool) (l : List α) (k : Nat) (hk : k < l.length) (h1 : p l[k] = true) (h0 : ∀ j (hj : j < l.length), j < k → p l[j] = false) : idxOf p l = k := by
  have : l.findIdx? p = some k := by
    rw [List.findIdx?_eq_some_iff_getElem]
    exact ⟨hk, h1, fun j hj => by simpa using h0 j (by omega) hj⟩
  simp [idxOf, this]

theorem idxOf_miss {α : Type} (p : α → Bool) (l : List α) (h0 : ∀ j (hj : j < l.length), p l[j] = false) : idxOf p l = -1 := by
  have : l.findIdx? p = none := by
    rw [List.findIdx?_eq_none_iff]
    intro x hx
    obtain ⟨j, hj, rfl⟩ := List.mem_iff_getElem.1 hx
    exact h0 j hj
  simp [idxOf, this]

theorem idxOf_ge {α : Type} (p : α → Bool) (l : List α) : decide (0 ≤ idxOf p l) = l.any p := by
  unfold idxOf
  cases h : l.findIdx? p with
  | none =>
    have h' := List.findIdx?_eq_none_iff.1 h
    have : l.any p = false := by
      rw [List.any_eq_false]
      intro x hx
      simp [h' x hx]
    rw [this]
    rfl
  | some i =>
    have : l.any p = true := by
      rw [List.any_eq_true]
      obtain ⟨hi, h1, _⟩ := List.findIdx?_eq_some_iff_getElem.1 h
      exact ⟨l[i], List.getElem_mem _, h1⟩
    rw [this]
    simp

theorem Valid1 (s : ByteArray) (w : World) (hs : s.size ≤ maxLen) :
    Calls Tryd.prog 77 #[.string s] w fun e w' => e = .returned (.bool (!partB s.data.toList)) ∧ w = w' := by
  go_enter Tryd.func77, Tryd.ntmps77
  go_wp2_with fail
  refine (part s _ hs).mono ?_
  rintro e w' ⟨rfl, rfl⟩
  go_wp2
  go_ret
  exact ⟨rfl, rfl⟩

/-- A row of strings in memory. -/
def StrRow (w : World) (b o : Nat) (xs : List ByteArray) : Prop := ∀ i (h : i < xs.length), w.cell? ⟨b, o + i, none⟩ = some (.string xs[i]) ∧ xs[i].size ≤ maxLen

theorem IndexFuncS (b o c : Nat) (xs : List ByteArray) (w : World) (hx : StrRow w b o xs) (hl : xs.length ≤ maxLen) :
    Calls Tryd.prog 89 #[.slice (some ⟨b, o, none⟩) xs.length c, .func (.func 77) #[] #[]] w fun e w' => e = .returned (.int .i64 (idxOf (fun s => !partB s.data.toList) xs)) ∧ w = w' := by
  unfold maxLen at hl
  have HX := Lib.hid hx
  clear hx
  go_enter Tryd.func89, Tryd.ntmps89
  go_wp2_with fail
  go_loop [8] (fun i => ∃ k : Nat, k ≤ xs.length ∧ i = .int .i64 k ∧ Hid (∀ j (h : j < xs.length), j < k → (fun s : ByteArray => !partB s.data.toList) xs[j] = false)) (fun i => xs.length - (intOf i).toNat)
  case atStart => exact ⟨0, Nat.zero_le _, rfl, fun j h hj => by omega⟩
  case round =>
    obtain ⟨k, hk, rfl, hb⟩ := hrel
    by_cases hlt : k < xs.length
    · have hlt' : (k : Int) < (xs.length : Int) := by omega
      obtain ⟨hc, hz⟩ := HX.out k hlt
      have HR : Hid ((!partB xs[k].data.toList) = true → idxOf (fun s : ByteArray => !partB s.data.toList) xs = k) := Lib.hid fun h => idxOf_hit _ _ k hlt h hb.out
      have HS : Hid ((!partB xs[k].data.toList) = false → ∀ j (h : j < xs.length), j < k + 1 → (fun s : ByteArray => !partB s.data.toList) xs[j] = false) := Lib.hid fun h j hj hjk => by
        by_cases e : j = k
        · subst e; exact h
        · exact hb.out j hj (by omega)
      obtain ⟨x, hxk⟩ : ∃ x, xs[k] = x := ⟨_, rfl⟩
      rw [hxk] at hc hz HR HS
      clear hxk hb
      cases hp : (!partB x.data.toList)
      all_goals
        go_wp2_with fail
        refine (Valid1 _ _ hz).mono ?_
        rintro e w' ⟨rfl, rfl⟩
        go_wp2
      · go_round
        case rel => exact ⟨k + 1, by omega, by go_num, HS.out hp⟩
        case measure => simp [intOf]; omega
      · go_ret
        exact ⟨by rw [HR.out hp]; rfl, rfl⟩
    · have F : Hid (idxOf (fun s : ByteArray => !partB s.data.toList) xs = -1) := Lib.hid (idxOf_miss _ _ fun j hj => hb.out j hj (by omega))
      go_wp2
      go_ret
      exact ⟨by rw [F.out]; rfl, rfl⟩

theorem ContainsFuncS (b o c : Nat) (xs : List ByteArray) (w : World) (hx : StrRow w b o xs) (hl : xs.length ≤ maxLen) :
    Calls Tryd.prog 75 #[.slice (some ⟨b, o, none⟩) xs.length c, .func (.func 77) #[] #[]] w fun e w' => e = .returned (.bool (xs.any fun s => !partB s.data.toList)) ∧ w = w' := by
  have HI := Lib.hid (idxOf_ge (fun s : ByteArray => !partB s.data.toList) xs)
  go_enter Tryd.func75, Tryd.ntmps75
  go_wp2_with fail
  refine (IndexFuncS b o c xs _ hx hl).mono ?_
  rintro e w' ⟨rfl, rfl⟩
  generalize idxOf (fun s : ByteArray => !partB s.data.toList) xs = r at HI
  go_wp2
  go_ret
  exact ⟨ret_bool HI.out, rfl⟩
end Go.Proofs.YtmpkdgankficeaaDoor.Lf
