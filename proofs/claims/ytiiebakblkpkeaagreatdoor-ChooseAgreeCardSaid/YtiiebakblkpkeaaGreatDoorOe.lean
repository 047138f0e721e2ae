/- Overriding: is a method among others; does one of them have a property? -/
import Derived.Test.YtiiebakblkpkeaaGreatDoorOd
set_option maxRecDepth 100000
set_option maxHeartbeats 1000000
set_option linter.unusedVariables false
set_option linter.unusedSimpArgs false
namespace Go.Proofs.YtiiebakblkpkeaaGreatDoor.Hi
open Go.RowKit Bs

def idO (p : Int × Int) : Value := .agg #[.int .i64 p.1, .int .i64 p.2]
/-- The place of the first that has a property, or -1. -/
def idxO (pr : Int × Int → Bool) (xs : List (Int × Int)) : Int := match xs.findIdx? pr with | some i => (i : Int) | none => -1
theorem idxO_any (pr : Int × Int → Bool) (xs : List (Int × Int)) : decide (0 ≤ idxO pr xs) = xs.any pr := by
  unfold idxO
  cases h : xs.findIdx? pr with
  | some i =>
    have : xs.any pr = true := by
      obtain ⟨hi, h1, _⟩ := List.findIdx?_eq_some_iff_getElem.1 h
      exact List.any_eq_true.2 ⟨_, List.getElem_mem hi, h1⟩
    rw [this]
    exact decide_eq_true (by simp)
  | none =>
    have : xs.any pr = false := by
      rw [List.any_eq_false]
      intro x hx
      simpa using List.findIdx?_eq_none_iff.1 h x hx
    rw [this]
    exact decide_eq_false (by simp)

theorem IndexO {w : World} {a : Option Addr} {cap : Nat} {xs : List (Int × Int)} (pr : Int × Int → Bool) (caps : Array Value) (hm : IdSl (fun b => b < w.heap.size) w (.slice a xs.length cap) xs)
    (hf : ∀ wr, Below w.heap.size w wr → ∀ k (hk : k < xs.length), Calls Tryz.prog 76 (#[idO xs[k]] ++ caps) wr fun r w' => r = .returned (.bool (pr xs[k])) ∧ Below wr.heap.size wr w') :
    Calls Tryz.prog 95 #[.slice a xs.length cap, .func (.func 76) #[] caps] w fun e w' => e = .returned (.int .i64 (idxO pr xs)) ∧ Below w.heap.size w w' := by
  have HM := Lib.hid hm
  have HF := Lib.hid hf
  have hby : xs.length * 16 ≤ 140737488355328 := by obtain ⟨_, _, _, _, h, _⟩ := hm; exact h
  clear hm hf
  go_enter Tryz.func95, Tryz.ntmps95
  go_wp2_with fail
  go_loopg [5, 8] xs.length (fun gk _ u wr => ∃ k : Nat, Hid (k + gk = xs.length ∧ ∀ j (h : j < xs.length), j < k → pr xs[j] = false) ∧ u = .int .i64 k ∧ Hid (Below w.heap.size w wr))
  case atStart => exact ⟨0, Lib.hid ⟨Nat.zero_add _, fun j h hj => by omega⟩, rfl, Lib.hid (Below.refl _ _)⟩
  case round =>
    obtain ⟨k, hk, rfl, hB⟩ := hrel
    by_cases hlt : k < xs.length
    · have hlt' : (k : Int) < (xs.length : Int) := by omega
      obtain ⟨b, o, rfl, g0, g1⟩ := IdSl.elem (HM.out.alike (Alike.of_below hB.out fun _ h => h)) hlt
      have HHIT : Hid (pr xs[k] = true → idxO pr xs = (k : Int)) := Lib.hid fun h => by
        unfold idxO
        rw [List.findIdx?_eq_some_iff_getElem.2 ⟨hlt, h, fun j hj => by simp [hk.out.2 j (by omega) hj]⟩]
      have HNEXT : Hid (pr xs[k] = false → ∀ j (h : j < xs.length), j < k + 1 → pr xs[j] = false) := Lib.hid fun h j hj hjk => by
        by_cases e : j = k
        · subst e; exact h
        · exact hk.out.2 j hj (by omega)
      have HC := Lib.hid (HF.out wr hB.out k hlt)
      generalize pr xs[k] = hit at HHIT HNEXT HC
      unfold idO at HC
      generalize xs[k] = x at g0 g1 HC
      go_wp2_with fail
      refine HC.out.mono ?_
      rintro e w1 ⟨rfl, hb1⟩
      have HB1 : Hid (Below w.heap.size w w1) := Lib.hid (hB.out.trans (hb1.mono hB.out.size))
      clear hb1 g0 g1
      cases hit
      · have G := Lib.hid (HNEXT.out rfl)
        go_wp2
        go_roundg (xs.length - (k + 1))
        case measure => have := hk.out.1; omega
        case rel => exact ⟨k + 1, Lib.hid ⟨by omega, G.out⟩, by go_num, HB1⟩
      · have G := Lib.hid (HHIT.out rfl)
        go_wp2
        go_ret
        exact ⟨by rw [G.out]; rfl, HB1.out⟩
    · have F : Hid (idxO pr xs = -1) := Lib.hid (by
        unfold idxO
        rw [List.findIdx?_eq_none_iff.2 (fun x hx => by
          obtain ⟨j, hj, rfl⟩ := List.getElem_of_mem hx
          exact hk.out.2 j hj (by omega))])
      go_wp2
      go_ret
      exact ⟨by rw [F.out]; rfl, hB.out⟩
theorem ContO {w : World} {a : Option Addr} {cap : Nat} {xs : List (Int × Int)} (pr : Int × Int → Bool) (caps : Array Value) (hm : IdSl (fun b => b < w.heap.size) w (.slice a xs.length cap) xs)
    (hf : ∀ wr, Below w.heap.size w wr → ∀ k (hk : k < xs.length), Calls Tryz.prog 76 (#[idO xs[k]] ++ caps) wr fun r w' => r = .returned (.bool (pr xs[k])) ∧ Below wr.heap.size wr w') :
    Calls Tryz.prog 75 #[.slice a xs.length cap, .func (.func 76) #[] caps] w fun e w' => e = .returned (.bool (xs.any pr)) ∧ Below w.heap.size w w' := by
  have HI := Lib.hid (IndexO pr caps hm hf)
  rw [← idxO_any]
  generalize idxO pr xs = r at HI
  clear hm hf
  go_enter Tryz.func75, Tryz.ntmps75
  go_wp2_with fail
  refine HI.out.mono ?_
  rintro e w1 ⟨rfl, hb⟩
  have HB := Lib.hid hb
  clear hb HI
  go_wp2
  go_ret
  exact ⟨rfl, HB.out⟩

def sameP (p y : Int × Int) : Bool := (p.1 == y.1) && (p.2 == y.2)
theorem any_contains (p : Int × Int) (xs : List (Int × Int)) : xs.any (sameP p) = xs.contains p := by
  rw [Bool.eq_iff_iff, List.any_eq_true, List.contains_iff_mem]
  constructor
  · rintro ⟨y, hy, h⟩
    unfold sameP at h
    simp only [Bool.and_eq_true, beq_iff_eq] at h
    obtain rfl : p = y := Prod.ext h.1 h.2
    exact hy
  · intro h
    exact ⟨p, h, by unfold sameP; simp⟩
theorem IndexV {w : World} {a : Option Addr} {cap : Nat} {xs : List (Int × Int)} (p : Int × Int) (hm : IdSl (fun b => b < w.heap.size) w (.slice a xs.length cap) xs) :
    Calls Tryz.prog 70 #[.slice a xs.length cap, .agg #[.int .i64 p.1, .int .i64 p.2]] w fun e w' => e = .returned (.int .i64 (idxO (sameP p) xs)) ∧ Below w.heap.size w w' := by
  have hba : Below w.heap.size w (w.alloc (.cells #[.int .i64 p.1, .int .i64 p.2] 24)) := (Below.refl _ _).alloc (Nat.le_refl _) _
  have q0 : (w.alloc (.cells #[.int .i64 p.1, .int .i64 p.2] 24)).cell? ⟨w.heap.size, 0, none⟩ = some (.int .i64 p.1) := World.cell?_alloc_new ..
  have q1 : (w.alloc (.cells #[.int .i64 p.1, .int .i64 p.2] 24)).cell? ⟨w.heap.size, 1, none⟩ = some (.int .i64 p.2) := World.cell?_alloc_new ..
  have HM := Lib.hid (IdSl.next hm hba)
  have HBA := Lib.hid hba
  have hby : xs.length * 16 ≤ 140737488355328 := by obtain ⟨_, _, _, _, h, _⟩ := hm; exact h
  clear hm hba
  go_enter Tryz.func70, Tryz.ntmps70
  go_wp2_with fail
  go_loopg [4, 8] xs.length (fun gk _ u wr => ∃ k : Nat, Hid (k + gk = xs.length ∧ ∀ j (h : j < xs.length), j < k → sameP p xs[j] = false) ∧ u = .int .i64 k ∧ Hid (Below (w.alloc (.cells #[.int .i64 p.1, .int .i64 p.2] 24)).heap.size (w.alloc (.cells #[.int .i64 p.1, .int .i64 p.2] 24)) wr))
  case atStart => exact ⟨0, Lib.hid ⟨Nat.zero_add _, fun j h hj => by omega⟩, rfl, Lib.hid (Below.refl _ _)⟩
  case round =>
    obtain ⟨k, hk, rfl, hB⟩ := hrel
    have p0 := below_cell' hB.out q0
    have p1 := below_cell' hB.out q1
    have HBB : Hid (Below w.heap.size w wr) := Lib.hid (HBA.out.trans (hB.out.mono HBA.out.size))
    by_cases hlt : k < xs.length
    · have hlt' : (k : Int) < (xs.length : Int) := by omega
      obtain ⟨b, o, rfl, g0, g1⟩ := IdSl.elem (HM.out.alike (Alike.of_below hB.out fun _ h => h)) hlt
      have HHIT : Hid (sameP p xs[k] = true → idxO (sameP p) xs = (k : Int)) := Lib.hid fun h => by
        unfold idxO
        rw [List.findIdx?_eq_some_iff_getElem.2 ⟨hlt, h, fun j hj => by simp [hk.out.2 j (by omega) hj]⟩]
      have HNEXT : Hid (sameP p xs[k] = false → ∀ j (h : j < xs.length), j < k + 1 → sameP p xs[j] = false) := Lib.hid fun h j hj hjk => by
        by_cases e : j = k
        · subst e; exact h
        · exact hk.out.2 j hj (by omega)
      have HSP : Hid (sameP p xs[k] = ((p.1 == xs[k].1) && (p.2 == xs[k].2))) := Lib.hid rfl
      generalize sameP p xs[k] = hit at HHIT HNEXT HSP
      generalize xs[k] = x at g0 g1 HSP
      obtain ⟨x1, x2⟩ := x
      obtain ⟨pa, pb⟩ := p
      simp only at HSP g0 g1 p0 p1 q0 q1
      by_cases h1 : pa = x1
      · by_cases h2 : pb = x2
        · subst h1; subst h2
          have G := Lib.hid (HHIT.out (by rw [HSP.out]; simp))
          clear HHIT HNEXT HSP
          go_wp2_with fail
          go_quiet (fail)
          go_wp2
          go_ret
          exact ⟨by rw [G.out]; rfl, below_drewN HBB.out _⟩
        · have h2' : (pb == x2) = false := by simpa using h2
          subst h1
          have G := Lib.hid (HNEXT.out (by rw [HSP.out, h2', Bool.and_false]))
          clear HHIT HNEXT HSP
          go_wp2_with fail
          go_quiet (fail)
          go_wp2
          go_roundg (xs.length - (k + 1))
          case measure => have := hk.out.1; omega
          case rel => exact ⟨k + 1, Lib.hid ⟨by have := hk.out.1; omega, G.out⟩, by go_num, Lib.hid (below_drewN hB.out _)⟩
      · have h1' : (pa == x1) = false := by simpa using h1
        have G := Lib.hid (HNEXT.out (by rw [HSP.out, h1', Bool.false_and]))
        clear HHIT HNEXT HSP
        go_wp2_with fail
        go_quiet (fail)
        go_wp2
        go_roundg (xs.length - (k + 1))
        case measure => have := hk.out.1; omega
        case rel => exact ⟨k + 1, Lib.hid ⟨by have := hk.out.1; omega, G.out⟩, by go_num, Lib.hid (below_drewN hB.out _)⟩
    · have F : Hid (idxO (sameP p) xs = -1) := Lib.hid (by
        unfold idxO
        rw [List.findIdx?_eq_none_iff.2 (fun x hx => by
          obtain ⟨j, hj, rfl⟩ := List.getElem_of_mem hx
          exact hk.out.2 j hj (by omega))])
      go_wp2
      go_ret
      exact ⟨by rw [F.out]; rfl, HBB.out⟩
theorem ContV {w : World} {a : Option Addr} {cap : Nat} {xs : List (Int × Int)} (p : Int × Int) (hm : IdSl (fun b => b < w.heap.size) w (.slice a xs.length cap) xs) :
    Calls Tryz.prog 43 #[.slice a xs.length cap, .agg #[.int .i64 p.1, .int .i64 p.2]] w fun e w' => e = .returned (.bool (xs.contains p)) ∧ Below w.heap.size w w' := by
  have hba : Below w.heap.size w (w.alloc (.cells #[.int .i64 p.1, .int .i64 p.2] 24)) := (Below.refl _ _).alloc (Nat.le_refl _) _
  have q0 : (w.alloc (.cells #[.int .i64 p.1, .int .i64 p.2] 24)).cell? ⟨w.heap.size, 0, none⟩ = some (.int .i64 p.1) := World.cell?_alloc_new ..
  have q1 : (w.alloc (.cells #[.int .i64 p.1, .int .i64 p.2] 24)).cell? ⟨w.heap.size, 1, none⟩ = some (.int .i64 p.2) := World.cell?_alloc_new ..
  have HI := Lib.hid (IndexV p (IdSl.next hm hba))
  have HBA := Lib.hid hba
  rw [← any_contains, ← idxO_any]
  generalize idxO (sameP p) xs = r at HI
  clear hm hba
  go_enter Tryz.func43, Tryz.ntmps43
  go_wp2_with fail
  refine HI.out.mono ?_
  rintro e w1 ⟨rfl, hb⟩
  have HB := Lib.hid (HBA.out.trans (hb.mono HBA.out.size))
  clear hb HI
  go_wp2
  go_ret
  exact ⟨rfl, HB.out⟩
end Go.Proofs.YtiiebakblkpkeaaGreatDoor.Hi
