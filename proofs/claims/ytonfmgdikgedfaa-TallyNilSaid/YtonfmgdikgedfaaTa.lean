/- Walks of the counters of package tally. -/
import Derived.Test.YtonfmgdikgedfaaRows
import Derived.WalkKit
import Derived.ProofKit
import Derived.OpenShut
import Derived.Laws.LoneSync
import Derived.Lib.Hide
import Derived.Below
import Derived.Laws.MakeOwn
import Derived.OwnWalk
set_option linter.unusedVariables false
set_option linter.unusedSimpArgs false
namespace Go.Proofs.Ytonfmgdikgedfaa.Ta
open Go.ChangeShapes Go.WideShapes Go.ChangeAt Go.RowKit

/-- The k-th number (behind a name of its own: simp does not open it). -/
def nth (xs : List Int) (k : Int) : Int := xs.getD k.toNat 0

/-- A tally in memory: its struct is block b, its counters are block c. -/
structure Tly (w : World) (b c : Nat) (xs : List Int) : Prop where
  ne : b ≠ c
  head : w.cell? ⟨b, 0, none⟩ = some (.slice (some ⟨c, 0, none⟩) xs.length xs.length)
  row : ∀ i, i < xs.length → w.cell? ⟨c, i, none⟩ = some (.int .i64 (nth xs i))
  thaw : ∀ i, w.frozen? ⟨c, i, none⟩ = false
  len : xs.length ≤ 64

theorem at_ok (b c : Nat) (xs : List Int) (k : Int) (w : World) (h : Tly w b c xs) (h0 : 0 ≤ k) (h1 : k < xs.length) :
    Calls Try.prog 33 #[.pointer (some ⟨b, 0, none⟩), .int .i64 k] w fun e w' => e = .returned (.tuple #[.pointer (some ⟨c, k.toNat, none⟩), .int .i64 0]) ∧ w = w' := by
  obtain ⟨_, head, _, _, hl⟩ := h
  go_enter Try.func33, Try.ntmps33
  go_wp2
  go_ret2
  exact ⟨rfl, rfl⟩

theorem at_out (b c : Nat) (xs : List Int) (k : Int) (w : World) (h : Tly w b c xs) (h0 : k < 0 ∨ xs.length ≤ k) :
    Calls Try.prog 33 #[.pointer (some ⟨b, 0, none⟩), .int .i64 k] w fun e w' => e = .returned (.tuple #[.pointer none, .int .i64 3]) ∧ w = w' := by
  obtain ⟨_, head, _, _, hl⟩ := h
  rcases h0 with h0 | h0
  · go_enter Try.func33, Try.ntmps33
    go_wp2
    go_ret2
    exact ⟨rfl, rfl⟩
  · have h1 : ¬ k < 0 := by omega
    go_enter Try.func33, Try.ntmps33
    go_wp2
    go_ret2
    exact ⟨rfl, rfl⟩

theorem at_nil (k : Int) (w : World) :
    Calls Try.prog 33 #[.pointer none, .int .i64 k] w fun e w' => e = .returned (.tuple #[.pointer none, .int .i64 2]) ∧ w = w' := by
  go_enter Try.func33, Try.ntmps33
  go_wp2
  go_ret2
  exact ⟨rfl, rfl⟩

theorem len_ok (b c : Nat) (xs : List Int) (w : World) (h : Tly w b c xs) :
    Calls Try.prog 20 #[.pointer (some ⟨b, 0, none⟩)] w fun e w' => e = .returned (.int .i64 xs.length) ∧ w = w' := by
  obtain ⟨_, head, _, _, hl⟩ := h
  go_enter Try.func20, Try.ntmps20
  go_wp2
  go_ret
  exact ⟨rfl, rfl⟩
end Go.Proofs.Ytonfmgdikgedfaa.Ta
