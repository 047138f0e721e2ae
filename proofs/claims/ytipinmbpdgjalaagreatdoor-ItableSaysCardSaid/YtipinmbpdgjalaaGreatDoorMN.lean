/- Names: their parts, sound names, packages. -/
import Derived.Test.YtipinmbpdgjalaaGreatDoorML
import Derived.Test.YtipinmbpdgjalaaGreatDoorShelf
import Derived.Lib.Split
import Derived.Laws.Closers25
set_option maxRecDepth 100000
set_option linter.unusedVariables false
set_option linter.unusedSimpArgs false
namespace Go.Proofs.YtipinmbpdgjalaaGreatDoor.Lf
open Go.RowKit

/-- What the library's own variable is: some number. -/
def Env (w : World) : Prop := ∃ m : Int, w.cell? ⟨0, 0, none⟩ = some (.int .i64 m)

theorem Env.below {w w' : World} (h : Env w) (hb : Below w.heap.size w w') : Env w' := by
  obtain ⟨m, hm⟩ := h
  exact ⟨m, (hb.cell (p := ⟨0, 0, none⟩) (World.block_lt_of_cell? w _ hm)).trans hm⟩

/-- The first place of which p holds, or -1. -/
def idxOf {α : Type} (p : α → Bool) (l : List α) : Int := match l.findIdx? p with | some i => i | none => -1

theorem idxOf_hit {α : Type} (p : α → Bool) (l : List α) (k : Nat) (hk : k < l.length) (h1 : p l[k] = true) (h0 : ∀ j (hj : j < l.length), j < k → p l[j] = false) : idxOf p l = k := by
  have : l.findIdx? p = some k := by
    rw [List.findIdx?_eq_some_iff_getElem]
    exact ⟨hk, h1, fun j hj => by simpa using h0 j (by omega) hj⟩
  simp [idxOf, this]

theorem idxOf_miss {α : Type} (p : α → Bool) (l : List α) (h0 : ∀ j (hj : j < l.length), p l[j] = false) : idxOf p l = -1 := by
  have : l.findIdx? p = none := by
    rw [List.findIdx?_eq_none_iff]
    intro x hx
    obtain ⟨j, hj, rfl⟩ := List.mem_iff_getElem.1 hx
    exact h0 j hj
  simp [idxOf, this]

theorem idxOf_ge {α : Type} (p : α → Bool) (l : List α) : decide (0 ≤ idxOf p l) = l.any p := by
  unfold idxOf
  cases h : l.findIdx? p with
  | none =>
    have h' := List.findIdx?_eq_none_iff.1 h
    have : l.any p = false := by
      rw [List.any_eq_false]
      intro x hx
      simp [h' x hx]
    rw [this]
    rfl
  | some i =>
    have : l.any p = true := by
      rw [List.any_eq_true]
      obtain ⟨hi, h1, _⟩ := List.findIdx?_eq_some_iff_getElem.1 h
      exact ⟨l[i], List.getElem_mem _, h1⟩
    rw [this]
    simp

theorem Valid1 (s : ByteArray) (w : World) (hs : s.size ≤ maxLen) :
    Calls Tryz.prog 111 #[.string s] w fun e w' => e = .returned (.bool (!partB s.data.toList)) ∧ w = w' := by
  go_enter Tryz.func111, Tryz.ntmps111
  go_wp2_with fail
  refine (part s _ hs).mono ?_
  rintro e w' ⟨rfl, rfl⟩
  go_wp2
  go_ret
  exact ⟨rfl, rfl⟩

/-- A row of strings in memory. -/
def StrRow (w : World) (b o : Nat) (xs : List ByteArray) : Prop := ∀ i (h : i < xs.length), w.cell? ⟨b, o + i, none⟩ = some (.string xs[i]) ∧ xs[i].size ≤ maxLen

theorem IndexFuncS (b o c : Nat) (xs : List ByteArray) (w : World) (hx : StrRow w b o xs) (hl : xs.length ≤ maxLen) :
    Calls Tryz.prog 122 #[.slice (some ⟨b, o, none⟩) xs.length c, .func (.func 111) #[] #[]] w fun e w' => e = .returned (.int .i64 (idxOf (fun s => !partB s.data.toList) xs)) ∧ w = w' := by
  unfold maxLen at hl
  have HX := Lib.hid hx
  clear hx
  go_enter Tryz.func122, Tryz.ntmps122
  go_wp2_with fail
  go_loop [8] (fun i => ∃ k : Nat, k ≤ xs.length ∧ i = .int .i64 k ∧ Hid (∀ j (h : j < xs.length), j < k → (fun s : ByteArray => !partB s.data.toList) xs[j] = false)) (fun i => xs.length - (intOf i).toNat)
  case atStart => exact ⟨0, Nat.zero_le _, rfl, fun j h hj => by omega⟩
  case round =>
    obtain ⟨k, hk, rfl, hb⟩ := hrel
    by_cases hlt : k < xs.length
    · have hlt' : (k : Int) < (xs.length : Int) := by omega
      obtain ⟨hc, hz⟩ := HX.out k hlt
      have HR : Hid ((!partB xs[k].data.toList) = true → idxOf (fun s : ByteArray => !partB s.data.toList) xs = k) := Lib.hid fun h => idxOf_hit _ _ k hlt h hb.out
      have HS : Hid ((!partB xs[k].data.toList) = false → ∀ j (h : j < xs.length), j < k + 1 → (fun s : ByteArray => !partB s.data.toList) xs[j] = false) := Lib.hid fun h j hj hjk => by
        by_cases e : j = k
        · subst e; exact h
        · exact hb.out j hj (by omega)
      obtain ⟨x, hxk⟩ : ∃ x, xs[k] = x := ⟨_, rfl⟩
      rw [hxk] at hc hz HR HS
      clear hxk hb
      cases hp : (!partB x.data.toList)
      all_goals
        go_wp2_with fail
        refine (Valid1 _ _ hz).mono ?_
        rintro e w' ⟨rfl, rfl⟩
        go_wp2
      · go_round
        case rel => exact ⟨k + 1, by omega, by go_num, HS.out hp⟩
        case measure => simp [intOf]; omega
      · go_ret
        exact ⟨by rw [HR.out hp]; rfl, rfl⟩
    · have F : Hid (idxOf (fun s : ByteArray => !partB s.data.toList) xs = -1) := Lib.hid (idxOf_miss _ _ fun j hj => hb.out j hj (by omega))
      go_wp2
      go_ret
      exact ⟨by rw [F.out]; rfl, rfl⟩

theorem ContainsFuncS (b o c : Nat) (xs : List ByteArray) (w : World) (hx : StrRow w b o xs) (hl : xs.length ≤ maxLen) :
    Calls Tryz.prog 109 #[.slice (some ⟨b, o, none⟩) xs.length c, .func (.func 111) #[] #[]] w fun e w' => e = .returned (.bool (xs.any fun s => !partB s.data.toList)) ∧ w = w' := by
  have HI := Lib.hid (idxOf_ge (fun s : ByteArray => !partB s.data.toList) xs)
  go_enter Tryz.func109, Tryz.ntmps109
  go_wp2_with fail
  refine (IndexFuncS b o c xs _ hx hl).mono ?_
  rintro e w' ⟨rfl, rfl⟩
  generalize idxOf (fun s : ByteArray => !partB s.data.toList) xs = r at HI
  go_wp2
  go_ret
  exact ⟨ret_bool HI.out, rfl⟩
end Go.Proofs.YtipinmbpdgjalaaGreatDoor.Lf
/- Cutting a text at a byte, plainly. -/
set_option linter.unusedVariables false
set_option linter.unusedSimpArgs false
namespace Go.Proofs.YtipinmbpdgjalaaGreatDoor.Lf
open Go

/-- The pieces of a text between the bytes c. -/
def cutAt (c : UInt8) : List UInt8 → List (List UInt8)
  | [] => [[]]
  | x :: r => if x == c then [] :: cutAt c r else match cutAt c r with | [] => [[x]] | p :: ps => (x :: p) :: ps

theorem index_single (c x : UInt8) (r : List UInt8) : Lib.index (x :: r) [c] = if x == c then 0 else if Lib.index r [c] == -1 then -1 else Lib.index r [c] + 1 := by
  have hx : (c == x) = (x == c) := by rw [Bool.eq_iff_iff, beq_iff_eq, beq_iff_eq]; exact eq_comm
  simp only [Lib.index, List.isPrefixOf, Bool.and_true, hx]

theorem split_cut (c : UInt8) (l : List UInt8) : Lib.splitK [c] 0 (Lib.count l [c]) l = cutAt c l ∧ (cutAt c l).length = Lib.count l [c] + 1 := by
  induction l with
  | nil => exact ⟨by simp [Lib.count, Lib.countFrom, Lib.splitK, cutAt, Lib.index], by simp [Lib.count, Lib.countFrom, cutAt, Lib.index]⟩
  | cons x r ih =>
    obtain ⟨ih1, ih2⟩ := ih
    have hi := index_single c x r
    by_cases hx : x = c
    · subst hx
      simp only [beq_self_eq_true, if_true] at hi
      have hc : Lib.count (x :: r) [x] = 1 + Lib.count r [x] := by
        have := Lib.count_hit (s := x :: r) (sub := [x]) (i := 0) (by simp) (by simpa using hi)
        simpa using this
      rw [hc, Nat.add_comm 1]
      simp only [Lib.splitK, hi, cutAt, beq_self_eq_true, if_true]
      simp [ih1, ih2]
    · have hx' : (x == c) = false := by simpa using hx
      simp only [hx', Bool.false_eq_true, if_false] at hi
      by_cases hr : Lib.index r [c] = -1
      · simp only [hr, beq_self_eq_true, if_true] at hi
        have h0 : Lib.count r [c] = 0 := Lib.count_miss hr
        have h1 : Lib.count (x :: r) [c] = 0 := Lib.count_miss hi
        rw [h0] at ih1 ih2
        simp only [Lib.splitK] at ih1
        rw [h1]
        simp only [Lib.splitK, cutAt, hx', Bool.false_eq_true, if_false, ← ih1]
        simp
      · have hge := Lib.index_ge r [c]
        obtain ⟨i, hi'⟩ : ∃ i : Nat, Lib.index r [c] = i := ⟨(Lib.index r [c]).toNat, by omega⟩
        have hb : (Lib.index r [c] == -1) = false := by simpa using hr
        simp only [hb, Bool.false_eq_true, if_false] at hi
        rw [hi'] at hi
        have h1 := Lib.count_hit (s := r) (sub := [c]) (i := i) (by simp) hi'
        have h2 := Lib.count_hit (s := x :: r) (sub := [c]) (i := i + 1) (by simp) (by rw [hi]; rfl)
        have h3 : Lib.count (x :: r) [c] = Lib.count r [c] := by
          rw [h1, h2]
          simp [Nat.add_assoc]
        rw [h3, h1, Nat.add_comm 1]
        rw [h1, Nat.add_comm 1] at ih1 ih2
        have e1 : (Lib.index (x :: r) [c] == -1) = false := by rw [hi]; simp; omega
        simp only [Lib.splitK, hb, e1, Bool.false_eq_true, if_false] at ih1 ⊢
        rw [hi'] at ih1
        rw [hi]
        simp only [cutAt, hx', Bool.false_eq_true, if_false, ← ih1]
        have t1 : ((i : Int) + 1).toNat = i + 1 := by omega
        simp only [List.length_singleton, t1, Int.toNat_natCast, Nat.add_zero, List.take_succ_cons] at ih1 ⊢
        refine ⟨by simp [Nat.add_assoc], ?_⟩
        rw [← ih1] at ih2
        simpa using ih2

theorem cutAt_le (c : UInt8) (l : List UInt8) : ∀ p ∈ cutAt c l, p.length ≤ l.length := by
  induction l with
  | nil => simp [cutAt]
  | cons x r ih =>
    unfold cutAt
    split
    · intro p hp
      rcases List.mem_cons.1 hp with rfl | hp
      · simp
      · have := ih p hp; simp; omega
    · cases h : cutAt c r with
      | nil => simp
      | cons q qs =>
        rw [h] at ih
        intro p hp
        rcases List.mem_cons.1 hp with rfl | hp
        · have := ih q (by simp); simp; omega
        · have := ih p (by simp [hp]); simp; omega
end Go.Proofs.YtipinmbpdgjalaaGreatDoor.Lf
/- Names: their parts, sound names, packages. -/
set_option maxRecDepth 100000
set_option linter.unusedVariables false
set_option linter.unusedSimpArgs false
namespace Go.Proofs.YtipinmbpdgjalaaGreatDoor.Lf
open Go.RowKit

/-- A text may be the name of a class. -/
def validB (l : List UInt8) : Bool := decide (l.length ≤ 60) && (cutAt 47 l).all partB

/-- A text may be the name of a method. -/
def memberB (s : ByteArray) : Bool := initB s || (decide (s.size ≤ 60) && partB s.data.toList)

theorem Parts (s : ByteArray) (w : World) (hs : s.size ≤ 60) (he : Env w) :
    Calls Tryz.prog 110 #[.string s] w fun e w' => ∃ xs : List ByteArray, e = .returned (.slice (some ⟨w.heap.size, 0, none⟩) xs.length xs.length) ∧
      xs.map (·.data.toList) = cutAt 47 s.data.toList ∧ w' = w.alloc (.cells (xs.map Value.string).toArray 9) := by
  obtain ⟨m, hm⟩ := he
  have hsp := split_cut 47 s.data.toList
  have hd : (Lib.splitB ⟨#[47]⟩ 0 (Lib.countB s ⟨#[47]⟩) s).map (·.data.toList) = cutAt 47 s.data.toList := (Lib.splitB_data _ _ _ _).trans hsp.1
  have hl : Lib.countB s ⟨#[47]⟩ + 1 = (Lib.splitB ⟨#[47]⟩ 0 (Lib.countB s ⟨#[47]⟩) s).length := by
    have h := congrArg List.length hd
    rw [List.length_map] at h
    rw [h, hsp.2]
  have key : Calls Tryz.prog 110 #[.string s] w fun e w' => e = .returned (.slice (some ⟨w.heap.size, 0, none⟩) (Lib.countB s ⟨#[47]⟩ + 1) (Lib.countB s ⟨#[47]⟩ + 1)) ∧
      w' = w.alloc (.cells ((Lib.splitB ⟨#[47]⟩ 0 (Lib.countB s ⟨#[47]⟩) s).map Value.string).toArray 9) := by
    clear hd hl hsp
    go_enter Tryz.func110, Tryz.ntmps110
    go_wp2_with fail
    refine (Tryz.strings_Split s ⟨#[47]⟩ m _ (by omega) hm (by decide)).mono ?_
    rintro e w' ⟨rfl, rfl⟩
    go_wp2
    go_ret
    exact ⟨rfl, rfl⟩
  refine key.mono ?_
  rintro e w' ⟨rfl, rfl⟩
  exact ⟨_, by rw [← hl], hd, rfl⟩

theorem StrRow_alloc (xs : List ByteArray) (w : World) (t : TypeId) (hz : ∀ x ∈ xs, x.size ≤ maxLen) : StrRow (w.alloc (.cells (xs.map Value.string).toArray t)) w.heap.size 0 xs := by
  intro i h
  refine ⟨?_, hz _ (List.getElem_mem h)⟩
  rw [World.cell?_alloc_new]
  simp [h]

theorem pieces_small {xs : List ByteArray} {s : ByteArray} (h : xs.map (·.data.toList) = cutAt 47 s.data.toList) (hs : s.size ≤ 60) : xs.length ≤ 61 ∧ ∀ x ∈ xs, x.size ≤ 60 := by
  constructor
  · have h1 := congrArg List.length h
    rw [List.length_map, (split_cut 47 s.data.toList).2] at h1
    have h2 := Lib.count_le s.data.toList [47]
    have h3 : Lib.count s.data.toList [47] ≤ s.data.toList.length := by
      have : ∀ l : List UInt8, (cutAt 47 l).length ≤ l.length + 1 := by
        intro l
        induction l with
        | nil => simp [cutAt]
        | cons x r ih =>
          unfold cutAt
          split
          · simp; omega
          · cases hc : cutAt 47 r with
            | nil => simp
            | cons q qs => rw [hc] at ih; simp at ih ⊢; omega
      have := this s.data.toList
      rw [(split_cut 47 s.data.toList).2] at this
      omega
    have h4 : s.data.toList.length = s.size := by simp
    omega
  · intro x hx
    have : x.data.toList ∈ cutAt 47 s.data.toList := by rw [← h]; exact List.mem_map.2 ⟨x, hx, rfl⟩
    have := cutAt_le 47 s.data.toList _ this
    simpa using Nat.le_trans this (by simpa using hs)

theorem Valid (s : ByteArray) (w : World) (hs : s.size ≤ maxLen) (he : Env w) :
    Calls Tryz.prog 100 #[.string s] w fun e w' => e = .returned (.bool (validB s.data.toList)) ∧ Below w.heap.size w w' := by
  unfold maxLen at hs
  by_cases h : s.size ≤ 60
  · have hd : decide ((s.size : Int) ≤ 60) = true := by simp; omega
    go_enter Tryz.func100, Tryz.ntmps100
    go_wp2_with fail
    refine (Parts s _ h he).mono ?_
    rintro e w' ⟨xs, rfl, hx, rfl⟩
    obtain ⟨hl, hz⟩ := pieces_small hx h
    have F : Hid (validB s.data.toList = !(xs.any fun s => !partB s.data.toList)) := Lib.hid (by
      unfold validB
      rw [← hx]
      simp only [List.all_map, Array.length_toList]
      rw [show decide (s.data.size ≤ 60) = true from decide_eq_true h, Bool.true_and, List.not_any_eq_all_not]
      simp [Function.comp_def])
    clear hx
    go_wp2_with fail
    refine (ContainsFuncS _ 0 _ xs _ (StrRow_alloc xs w _ fun x hx => by have := hz x hx; unfold maxLen; omega) (by unfold maxLen; omega)).mono ?_
    rintro e w' ⟨rfl, rfl⟩
    generalize (xs.any fun s => !partB s.data.toList) = b at F
    go_wp2
    go_ret
    exact ⟨by rw [F.out]; rfl, (Below.refl _ _).alloc (Nat.le_refl _) _⟩
  · have hd : decide ((s.size : Int) ≤ 60) = false := by simp; omega
    have F : Hid (validB s.data.toList = false) := Lib.hid (by
      unfold validB
      rw [show decide (s.data.toList.length ≤ 60) = false from decide_eq_false (by simpa using h)]
      rfl)
    go_enter Tryz.func100, Tryz.ntmps100
    go_wp2
    go_ret
    exact ⟨by rw [F.out]; rfl, Below.refl _ _⟩

theorem Member (s : ByteArray) (w : World) (hs : s.size ≤ maxLen) :
    Calls Tryz.prog 104 #[.string s] w fun e w' => e = .returned (.bool (memberB s)) ∧ w = w' := by
  have hs' := hs
  unfold maxLen at hs'
  cases hi : (s.toList == [60, 105, 110, 105, 116, 62])
  · by_cases h : s.size ≤ 60
    · have hd : decide ((s.size : Int) ≤ 60) = true := by simp; omega
      have F : Hid (memberB s = partB s.data.toList) := Lib.hid (by unfold memberB initB; rw [hi, decide_eq_true h]; simp)
      go_enter Tryz.func104, Tryz.ntmps104
      go_wp2_with fail
      refine (part s _ hs).mono ?_
      rintro e w' ⟨rfl, rfl⟩
      go_wp2
      go_ret
      exact ⟨by rw [F.out]; rfl, rfl⟩
    · have hd : decide ((s.size : Int) ≤ 60) = false := by simp; omega
      have F : Hid (memberB s = false) := Lib.hid (by unfold memberB initB; rw [hi, decide_eq_false h]; simp)
      go_enter Tryz.func104, Tryz.ntmps104
      go_wp2
      go_ret
      exact ⟨by rw [F.out]; rfl, rfl⟩
  · have F : Hid (memberB s = true) := Lib.hid (by unfold memberB initB; rw [hi]; simp)
    go_enter Tryz.func104, Tryz.ntmps104
    go_wp2
    go_ret
    exact ⟨by rw [F.out]; rfl, rfl⟩
end Go.Proofs.YtipinmbpdgjalaaGreatDoor.Lf
