/- Shapes: words. -/
import Derived.Test.YtmpkdgankficeaaDoorPj
set_option maxRecDepth 100000
set_option maxHeartbeats 2000000
set_option linter.unusedVariables false
set_option linter.unusedSimpArgs false
namespace Go.Proofs.YtmpkdgankficeaaDoor.Pr
open Go.RowKit Bs Hi

def descOf (m : MethM) : DescR := descM m.desc.data.toList
def noStatic (f : Int) : Bool := bits .and .i64 f 8 == 0
/-- How many locals the arguments take. -/
def wordsR (m : MethM) : Int × Int := if (descOf m).err = 0 then (if noStatic m.flags = true then ((descOf m).n : Int) + 1 else (descOf m).n, 0) else (0, 1)

theorem argsM_n : ∀ (f : Nat) (l : List UInt8) (n : Nat) (wd : Bool), (argsM f l n wd).n ≤ n + f
  | 0, l, n, wd => Nat.le_refl _
  | f + 1, l, n, wd => by
    unfold argsM
    split
    · simp
    · split
      · have := argsM_n f (tail l).rest (n + 1) (wd || decide (255 < (brackets l : Int))); omega
      · simp
theorem descEnd_n (ok : Bool) (l : List UInt8) (n : Nat) (wd v : Bool) (rd : Int) (rn : List UInt8) : (descEnd ok l n wd v rd rn).n ≤ 20 := by
  unfold descEnd
  split
  · simp
  · split
    · simp
    · rename_i h
      simp at h ⊢
      omega
theorem descM_n (l : List UInt8) : (descM l).n ≤ 20 := by
  unfold descM
  split
  · simp
  · split
    · dsimp only
      split
      · split
        · exact descEnd_n ..
        · exact descEnd_n ..
      · exact descEnd_n ..
    · exact descEnd_n ..

theorem Words (m : MethM) (cv : Value) (w : World) (h2 : m.desc.size ≤ maxLen) (he : Lf.Env w) :
    Calls Tryd.prog 69 #[.agg #[.string m.name, .string m.desc, .int .i64 m.flags, .int .i64 m.locals, .int .i64 m.stack, cv]] w fun e w' => e = .returned (.tuple #[.int .i64 (wordsR m).1, .int .i64 (wordsR m).2]) ∧ Below w.heap.size w w' := by
  have HA := Lib.hid (Args m.desc.data.toList (w.alloc (.cells #[.string m.name, .string m.desc, .int .i64 m.flags, .int .i64 m.locals, .int .i64 m.stack, cv] 57)) (by simpa using h2) (env_alloc he _))
  rw [ba_of] at HA
  have hn := descM_n m.desc.data.toList
  have HF : Hid (wordsR m = if (descOf m).err = 0 then (if noStatic m.flags = true then ((descOf m).n : Int) + 1 else (descOf m).n, 0) else (0, 1)) := Lib.hid rfl
  unfold descOf at HF
  generalize descM m.desc.data.toList = d at HA HF hn
  obtain ⟨dn, dv, dd, dr, de⟩ := d
  have ce : ∀ j : Nat, (w.alloc (.cells #[.string m.name, .string m.desc, .int .i64 m.flags, .int .i64 m.locals, .int .i64 m.stack, cv] 57)).cell? ⟨w.heap.size, j, none⟩ = (#[Value.string m.name, .string m.desc, .int .i64 m.flags, .int .i64 m.locals, .int .i64 m.stack, cv])[j]? := fun j => World.cell?_alloc_new ..
  have HC2 := Lib.hid (ce 2)
  clear ce h2 he
  dsimp only at hn HF
  by_cases h0 : de = 0
  · subst h0
    cases hs : noStatic m.flags
    all_goals
      have hs' := hs
      unfold noStatic at hs'
      have G := Lib.hid (HF.out.trans (if_pos rfl))
      rw [hs] at G
      clear hs
      go_enter Tryd.func69, Tryd.ntmps69
      go_wp2_with fail
      refine HA.out.mono ?_
      rintro e w1 ⟨rfl, hb1⟩
      have c2 : w1.cell? ⟨w.heap.size, 2, none⟩ = some (.int .i64 m.flags) := below_cell' hb1 HC2.out
      have HB1 : Hid (Below w.heap.size w w1) := Lib.hid (((Below.refl _ _).alloc (Nat.le_refl _) _).trans (hb1.mono (by simp)))
      clear hb1
      go_wp2
      go_ret2
      exact ⟨by rw [G.out]; rfl, HB1.out⟩
  · have e1 : (de != 0) = true := by simpa using h0
    have G := Lib.hid (HF.out.trans (if_neg h0))
    go_enter Tryd.func69, Tryd.ntmps69
    go_wp2_with fail
    refine HA.out.mono ?_
    rintro e w1 ⟨rfl, hb1⟩
    have HB1 : Hid (Below w.heap.size w w1) := Lib.hid (((Below.refl _ _).alloc (Nat.le_refl _) _).trans (hb1.mono (by simp)))
    clear hb1
    go_wp2
    go_ret2
    exact ⟨by rw [G.out]; rfl, HB1.out⟩
end Go.Proofs.YtmpkdgankficeaaDoor.Pr
