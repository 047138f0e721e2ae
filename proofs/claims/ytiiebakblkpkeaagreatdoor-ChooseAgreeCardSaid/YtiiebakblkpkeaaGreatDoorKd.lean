/- maxspec.Max: its function values. -/
import Derived.Test.YtiiebakblkpkeaaGreatDoorMK
set_option maxRecDepth 100000
set_option maxHeartbeats 1000000
set_option linter.unusedVariables false
set_option linter.unusedSimpArgs false
namespace Go.Proofs.YtiiebakblkpkeaaGreatDoor.Hi
open Go.RowKit Bs

/-- Does another stand below it? -/
def hidE (m : List EntM) (p o : Int × Int) : Bool := o.1 != p.1 && extM m o.1 p.1
def hidM (m : List EntM) (all : List (Int × Int)) (p : Int × Int) : Bool := all.any (hidE m p)
def maxL (m : List EntM) (all : List (Int × Int)) : List (Int × Int) := all.filter fun p => !hidM m all p
def maxM (m : List EntM) (c : Nat) (n d : ByteArray) : List (Int × Int) := maxL m (candM m c n d)
def idV (p : Int × Int) : Value := .agg #[.int .i64 p.1, .int .i64 p.2]

theorem Max11 {B bw : Nat} {w0 w : World} {m : List EntM} (h : Built B bw w0 w m) {qm qw : Nat} (p o : Int × Int) (hw : w.cell? ⟨qw, 0, none⟩ = some (.pointer (some ⟨bw, 0, none⟩))) (hm0 : w.cell? ⟨qm, 0, none⟩ = some (.int .i64 p.1)) :
    Calls Tryz.prog 98 #[idV o, .pointer (some ⟨qm, 0, none⟩), .pointer (some ⟨qw, 0, none⟩)] w fun r w' => r = .returned (.bool (hidE m p o)) ∧ Below w.heap.size w w' := by
  have hba : Below w.heap.size w (w.alloc (.cells #[.int .i64 o.1, .int .i64 o.2] 24)) := (Below.refl _ _).alloc (Nat.le_refl _) _
  have HEX := Lib.hid ((h.next hba).extends o.1 p.1)
  have g0 := alloc_old (x := .cells #[.int .i64 o.1, .int .i64 o.2] 24) hw
  have g1 := alloc_old (x := .cells #[.int .i64 o.1, .int .i64 o.2] 24) hm0
  have HBA := Lib.hid hba
  unfold hidE idV
  obtain ⟨x, hx⟩ : ∃ x, extM m o.1 p.1 = x := ⟨_, rfl⟩
  rw [hx] at HEX ⊢
  clear h hw hm0 hba hx
  generalize o.1 = oc at *
  generalize p.1 = pc at *
  by_cases he : oc = pc
  · have hq : (oc != pc) = false := by simpa using he
    rw [hq]
    clear he HEX
    go_enter Tryz.func98, Tryz.ntmps98
    go_wp2
    go_ret
    exact ⟨rfl, HBA.out⟩
  · have hq : (oc != pc) = true := by simpa using he
    rw [hq]
    clear he
    go_enter Tryz.func98, Tryz.ntmps98
    go_wp2_with fail
    refine HEX.out.mono ?_
    rintro e w1 ⟨rfl, hb⟩
    have HB := Lib.hid (HBA.out.trans (hb.mono HBA.out.size))
    clear hb HEX
    go_wp2
    go_ret
    exact ⟨by simp, HB.out⟩

/-- The place of the first that has a property, or -1. -/
def idxIds (pr : Int × Int → Bool) (xs : List (Int × Int)) : Int := match xs.findIdx? pr with | some i => (i : Int) | none => -1

theorem IndexIds {w : World} {a : Option Addr} {cap : Nat} {xs : List (Int × Int)} (pr : Int × Int → Bool) (f : Nat) (caps : Array Value) (hfn : f = 98 ∨ f = 63) (hm : IdSl (fun b => b < w.heap.size) w (.slice a xs.length cap) xs)
    (hf : ∀ wr, Below w.heap.size w wr → ∀ k (hk : k < xs.length), Calls Tryz.prog f (#[idV xs[k]] ++ caps) wr fun r w' => r = .returned (.bool (pr xs[k])) ∧ Below wr.heap.size wr w') :
    Calls Tryz.prog 95 #[.slice a xs.length cap, .func (.func f) #[] caps] w fun e w' => e = .returned (.int .i64 (idxIds pr xs)) ∧ Below w.heap.size w w' := by
  have HM := Lib.hid hm
  have HF := Lib.hid hf
  have hby : xs.length * 16 ≤ 140737488355328 := by obtain ⟨_, _, _, _, h, _⟩ := hm; exact h
  clear hm hf
  rcases hfn with rfl | rfl
  all_goals
    go_enter Tryz.func95, Tryz.ntmps95
    go_wp2_with fail
    go_loopg [5, 8] xs.length (fun gk _ u wr => ∃ k : Nat, Hid (k + gk = xs.length ∧ ∀ j (h : j < xs.length), j < k → pr xs[j] = false) ∧ u = .int .i64 k ∧ Hid (Below w.heap.size w wr))
    case atStart => exact ⟨0, Lib.hid ⟨Nat.zero_add _, fun j h hj => by omega⟩, rfl, Lib.hid (Below.refl _ _)⟩
    case round =>
      obtain ⟨k, hk, rfl, hB⟩ := hrel
      by_cases hlt : k < xs.length
      · have hlt' : (k : Int) < (xs.length : Int) := by omega
        obtain ⟨b, o, rfl, g0, g1⟩ := IdSl.elem (HM.out.alike (Alike.of_below hB.out fun _ h => h)) hlt
        have HHIT : Hid (pr xs[k] = true → idxIds pr xs = (k : Int)) := Lib.hid fun h => by
          unfold idxIds
          rw [List.findIdx?_eq_some_iff_getElem.2 ⟨hlt, h, fun j hj => by simp [hk.out.2 j (by omega) hj]⟩]
        have HNEXT : Hid (pr xs[k] = false → ∀ j (h : j < xs.length), j < k + 1 → pr xs[j] = false) := Lib.hid fun h j hj hjk => by
          by_cases e : j = k
          · subst e; exact h
          · exact hk.out.2 j hj (by omega)
        have HC := Lib.hid (HF.out wr hB.out k hlt)
        generalize pr xs[k] = hit at HHIT HNEXT HC
        unfold idV at HC
        generalize xs[k] = x at g0 g1 HC
        go_wp2_with fail
        refine HC.out.mono ?_
        rintro e w1 ⟨rfl, hb1⟩
        have HB1 : Hid (Below w.heap.size w w1) := Lib.hid (hB.out.trans (hb1.mono hB.out.size))
        clear hb1 g0 g1
        cases hit
        · have G := Lib.hid (HNEXT.out rfl)
          go_wp2
          go_roundg (xs.length - (k + 1))
          case measure => have := hk.out.1; omega
          case rel => exact ⟨k + 1, Lib.hid ⟨by omega, G.out⟩, by go_num, HB1⟩
        · have G := Lib.hid (HHIT.out rfl)
          go_wp2
          go_ret
          exact ⟨by rw [G.out]; rfl, HB1.out⟩
      · have F : Hid (idxIds pr xs = -1) := Lib.hid (by
          unfold idxIds
          rw [List.findIdx?_eq_none_iff.2 (fun x hx => by
            obtain ⟨j, hj, rfl⟩ := List.getElem_of_mem hx
            exact hk.out.2 j hj (by omega))])
        go_wp2
        go_ret
        exact ⟨by rw [F.out]; rfl, hB.out⟩

theorem idx_any (pr : Int × Int → Bool) (xs : List (Int × Int)) : decide (0 ≤ idxIds pr xs) = xs.any pr := by
  unfold idxIds
  cases h : xs.findIdx? pr with
  | some i =>
    have : xs.any pr = true := by
      obtain ⟨hi, h1, _⟩ := List.findIdx?_eq_some_iff_getElem.1 h
      exact List.any_eq_true.2 ⟨_, List.getElem_mem hi, h1⟩
    rw [this]
    exact decide_eq_true (by simp)
  | none =>
    have : xs.any pr = false := by
      rw [List.any_eq_false]
      intro x hx
      simpa using List.findIdx?_eq_none_iff.1 h x hx
    rw [this]
    exact decide_eq_false (by simp)

theorem ContIds {w : World} {a : Option Addr} {cap : Nat} {xs : List (Int × Int)} (pr : Int × Int → Bool) (f : Nat) (caps : Array Value) (hfn : f = 98 ∨ f = 63) (hm : IdSl (fun b => b < w.heap.size) w (.slice a xs.length cap) xs)
    (hf : ∀ wr, Below w.heap.size w wr → ∀ k (hk : k < xs.length), Calls Tryz.prog f (#[idV xs[k]] ++ caps) wr fun r w' => r = .returned (.bool (pr xs[k])) ∧ Below wr.heap.size wr w') :
    Calls Tryz.prog 75 #[.slice a xs.length cap, .func (.func f) #[] caps] w fun e w' => e = .returned (.bool (xs.any pr)) ∧ Below w.heap.size w w' := by
  have HI := Lib.hid (IndexIds pr f caps hfn hm hf)
  rw [← idx_any]
  generalize idxIds pr xs = r at HI
  clear hm hf hfn
  go_enter Tryz.func75, Tryz.ntmps75
  go_wp2_with fail
  refine HI.out.mono ?_
  rintro e w1 ⟨rfl, hb⟩
  have HB := Lib.hid hb
  clear hb HI
  go_wp2
  go_ret
  exact ⟨rfl, HB.out⟩

theorem Max1 {B bw : Nat} {w0 w : World} {m : List EntM} (h : Built B bw w0 w m) {qa qw : Nat} {a : Option Addr} {cap : Nat} {all : List (Int × Int)} (p : Int × Int) (ha : w.cell? ⟨qa, 0, none⟩ = some (.slice a all.length cap)) (hl : IdSl (fun b => b < w.heap.size) w (.slice a all.length cap) all) (hw : w.cell? ⟨qw, 0, none⟩ = some (.pointer (some ⟨bw, 0, none⟩))) :
    Calls Tryz.prog 97 #[idV p, .pointer (some ⟨qa, 0, none⟩), .pointer (some ⟨qw, 0, none⟩)] w fun r w' => r = .returned (.bool (hidM m all p)) ∧ Below w.heap.size w w' := by
  have hba : Below w.heap.size w (w.alloc (.cells #[.int .i64 p.1, .int .i64 p.2] 24)) := (Below.refl _ _).alloc (Nat.le_refl _) _
  have hm0 : (w.alloc (.cells #[.int .i64 p.1, .int .i64 p.2] 24)).cell? ⟨w.heap.size, 0, none⟩ = some (.int .i64 p.1) := World.cell?_alloc_new ..
  have g0 := below_cell' hba ha
  have g1 := below_cell' hba hw
  have HC := Lib.hid (ContIds (hidE m p) 98 #[.pointer (some ⟨w.heap.size, 0, none⟩), .pointer (some ⟨qw, 0, none⟩)] (.inl rfl) (IdSl.next hl hba)
    (fun wr hb k hk => Max11 (h.next (hba.trans (hb.mono hba.size))) p all[k] (below_cell' hb g1) (below_cell' hb hm0)))
  have HBA := Lib.hid hba
  unfold idV
  show Calls _ _ _ _ fun r w' => r = .returned (.bool (all.any (hidE m p))) ∧ _
  clear h ha hl hw hba hm0
  go_enter Tryz.func97, Tryz.ntmps97
  go_wp2_with fail
  refine HC.out.mono ?_
  rintro e w1 ⟨rfl, hb⟩
  have HB := Lib.hid (HBA.out.trans (hb.mono HBA.out.size))
  clear hb HC
  go_wp2
  go_ret
  exact ⟨rfl, HB.out⟩
end Go.Proofs.YtiiebakblkpkeaaGreatDoor.Hi
