/- slices.Backward over a row of numbers: what the iterator gives. -/
import Derived.RangeFuncNested
import Derived.RangeFuncBound
import Derived.RangeFuncCalls
import Derived.RangeFuncLeaves
import Derived.Shelf.Abstract
import Derived.Shelf.RegionOpen
import Derived.WalkKit
import Derived.OwnWalkIn
import Derived.TacticsInMore
import Derived.LoopNIn
import Derived.LoopIn
import Derived.Lib.Hide
import Derived.Test.YtiiebakblkpkeaaGreatDoorMM
set_option maxRecDepth 100000
set_option maxHeartbeats 2000000
set_option linter.unusedVariables false
set_option linter.unusedSimpArgs false
namespace Go.Proofs.YtiiebakblkpkeaaGreatDoor.Hi
open Go.RowKit Go.Shelf Bs
attribute [local go_sem] Oper.semAt_some

/-- A place and a number of which P holds. -/
abbrev BkT (P : Int → Prop) := { x : Int × Int // P x.2 }
/-- What has come when k rounds are over: from the last on. -/
def back (P : Int → Prop) (zs : List Int) (hP : ∀ j : Nat, P (zs[j]?.getD 0)) (k : Nat) : List (BkT P) := (List.range k).map fun (j : Nat) => ⟨(((zs.length - 1 - j : Nat) : Int), zs[zs.length - 1 - j]?.getD 0), hP _⟩
theorem back_succ {P : Int → Prop} (zs : List Int) (hP : ∀ j : Nat, P (zs[j]?.getD 0)) (k : Nat) : back P zs hP (k + 1) = back P zs hP k ++ [⟨(((zs.length - 1 - k : Nat) : Int), zs[zs.length - 1 - k]?.getD 0), hP _⟩] := by simp [back, List.range_succ]
theorem back_length {P : Int → Prop} (zs : List Int) (hP : ∀ j : Nat, P (zs[j]?.getD 0)) (k : Nat) : (back P zs hP k).length = k := by simp [back]
theorem back_snd {P : Int → Prop} (zs : List Int) (hP : ∀ j : Nat, P (zs[j]?.getD 0)) : (back P zs hP zs.length).map (·.1.2) = zs.reverse := by
  apply List.ext_getElem
  · simp [back]
  · intro i h1 h2
    have hi : i < zs.length := by simpa using h2
    have h3 : zs.length - 1 - i < zs.length := by omega
    simp [back, List.getElem_reverse, List.getElem?_eq_getElem h3]

abbrev encB {P : Int → Prop} (x : BkT P) : Array Value := #[.int .i64 x.1.1, .int .i64 x.1.2]

theorem Backward1 (n : Nat) (hn : 1 ≤ n) (F : Nat → Prop) (l s b off cap : Nat) (P : Int → Prop) (zs : List Int) (hP : ∀ j : Nat, P (zs[j]?.getD 0)) (hlen : zs.length ≤ 1000) (hb : ¬ F b) (hs : ¬ F s) (J Jx : List (BkT P) → World → Prop)
    (hY : ∀ pre x W, J pre W → pre.length < zs.length → YieldAt Fence.wide (n - 1) Tryz.prog l (encB x) W fun e W' =>
      (e = .returned (.bool true) ∧ J (pre ++ [x]) W' ∧ Chg F W W') ∨ (e = .returned (.bool false) ∧ Jx (pre ++ [x]) W'))
    (W : World) (hBs : W.cell? ⟨s, 0, none⟩ = some (.slice (some ⟨b, off, none⟩) zs.length cap)) (hc : ∀ j, j < zs.length → W.cell? ⟨b, off + j, none⟩ = some (.int .i64 (zs[j]?.getD 0))) (h0 : J [] W) :
    CallsIn Fence.wide n Tryz.prog 106 #[.func (.yield l) #[] #[], .pointer (some ⟨s, 0, none⟩)] W fun e W' => (∃ v, e = .returned v) ∧
      ((∃ ys, ys = back P zs hP zs.length ∧ J ys W') ∨ (∃ pre, (∃ k, k ≤ zs.length ∧ pre = back P zs hP k) ∧ Jx pre W')) := by
  refine callsIn_of_wp Tryz.func106 rfl trivial ?_ rfl
  simp only [Tryz.ntmps106, List.size_toArray, List.length_cons, List.length_nil, Nat.reduceAdd, Nat.reduceSub, Array.replicate_succ, Array.replicate_zero, List.push_toArray, List.append_toArray, List.nil_append, List.cons_append]
  have HLEN := Lib.hid hlen
  gi_wp2
  gi_loopw [3] (fun i wr => ∃ k : Nat, Hid (k ≤ zs.length ∧ Chg F W wr) ∧ ((k = zs.length ∧ i = .int .i64 (-1)) ∨ ∃ j : Nat, j + k + 1 = zs.length ∧ i = .int .i64 j) ∧ J (back P zs hP k) wr)
    (fun i _ => (intOf i + 1).toNat)
  case atStart =>
    refine ⟨0, Lib.hid ⟨Nat.zero_le _, Chg.refl _ _⟩, ?_, h0⟩
    rcases Nat.eq_zero_or_pos zs.length with e | e
    · exact .inl ⟨e.symm, by rw [e]; rfl⟩
    · refine .inr ⟨zs.length - 1, by omega, ?_⟩
      congr 1
      omega
  case round =>
    obtain ⟨k, hk, hi, hJs⟩ := hrel
    rcases hi with ⟨hkl, rfl⟩ | ⟨j, hj, rfl⟩
    · subst hkl
      gi_wp2
      go_end0
      exact ⟨⟨_, rfl⟩, .inl ⟨_, rfl, hJs⟩⟩
    · have hs' := Chg.cell_eq hk.out.2 hBs hs
      have hc' := Chg.cell_eq hk.out.2 (hc j (by omega)) hb
      have hj0 : (0 : Int) ≤ (j : Int) := by omega
      have hjl : (j : Int) < (zs.length : Int) := by omega
      have HB : Hid (back P zs hP (k + 1) = back P zs hP k ++ [⟨((j : Int), zs[j]?.getD 0), hP j⟩]) := Lib.hid (by
        rw [back_succ zs hP]
        obtain rfl : zs.length - 1 - k = j := by omega
        rfl)
      obtain ⟨fn, tmps, assign, body, hy, hR⟩ := hY _ ⟨((j : Int), zs[j]?.getD 0), hP j⟩ wr hJs (by rw [back_length]; omega)
      dsimp only [encB] at hy
      gi_wp2
      refine hR.mono ?_
      rintro e W3 (⟨rfl, hJ3, hk3⟩ | ⟨rfl, hJx3⟩)
      · gi_wp2
        go_roundw
        case rel =>
          refine ⟨k + 1, Lib.hid ⟨by omega, Chg.trans hk.out.2 hk3 fun _ _ h => h⟩, ?_, by rw [HB.out]; exact hJ3⟩
          rcases Nat.eq_zero_or_pos j with e | e
          · subst e
            exact .inl ⟨by omega, by go_num⟩
          · exact .inr ⟨j - 1, by omega, by go_num⟩
        case measure => simp [intOf]
      · gi_wp2
        refine bodyPost_ret (results_none rfl _ _ _) rfl ?_
        exact ⟨⟨_, rfl⟩, .inr ⟨_, ⟨k + 1, by omega, HB.out.symm⟩, hJx3⟩⟩

theorem Backward_in (a : Option Addr) (len cap : Nat) (w : World) :
    Calls Tryz.prog 73 #[.slice a len cap] w fun e w' => e = .returned (.func (.func 106) #[] #[.pointer (some ⟨w.heap.size, 0, none⟩)]) ∧ w' = w.alloc (.cells #[.slice a len cap] 42) := by
  refine (callsIn_wide (n := 3)).1 ?_
  refine callsIn_of_wp Tryz.func73 rfl trivial ?_ rfl
  simp only [Tryz.ntmps73, List.size_toArray, List.length_cons, List.length_nil, Nat.reduceAdd, Nat.reduceSub, Array.replicate_succ, Array.replicate_zero, List.push_toArray, List.append_toArray, List.nil_append, List.cons_append]
  gi_wp2
  go_ret
  exact ⟨rfl, rfl⟩
theorem Backward_stops (n : Nat) (hn : 1 ≤ n) (F : Nat → Prop) (s b off cap : Nat) (P : Int → Prop) (zs : List Int) (hP : ∀ j : Nat, P (zs[j]?.getD 0)) (hlen : zs.length ≤ 1000) (w : World) (hb : ¬ F b) (hs : ¬ F s)
    (hBs : w.cell? ⟨s, 0, none⟩ = some (.slice (some ⟨b, off, none⟩) zs.length cap)) (hc : ∀ j, j < zs.length → w.cell? ⟨b, off + j, none⟩ = some (.int .i64 (zs[j]?.getD 0))) :
    SeqStopsK Fence.wide n Tryz.prog 106 #[.pointer (some ⟨s, 0, none⟩)] (encB (P := P)) (Chg F) (fun ys => ys = back P zs hP zs.length) (fun pre => ∃ k, k ≤ zs.length ∧ pre = back P zs hP k) zs.length w :=
  fun l J Jx W hW _ _ hY h0 => Backward1 n hn F l s b off cap P zs hP hlen hb hs J Jx hY W (below_cell' hW hBs) (fun j hj => below_cell' hW (hc j hj)) h0
end Go.Proofs.YtiiebakblkpkeaaGreatDoor.Hi
