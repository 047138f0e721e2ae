/- A call of one goroutine, proved by its contract, meets the row that says 'leaving'. -/
import Derived.Conc.Holds
import Derived.Handed
namespace Go.Proofs.Ytonfmgdikgedfaa.Leave

/-- Whoever has ended is only leaving. -/
theorem leaving_of_alone (P : Program) {last : Machine} {w : World} {t : Trace} (h : aloneAtReturn P last w t) : leavingAtReturn P last w t := by
  obtain ⟨⟨hq, ht⟩, hh, he⟩ := h
  refine ⟨hh, ⟨fun g hg => ⟨0, ?_⟩, ht⟩, he⟩
  unfold Machine.othersDone at hq
  have h := List.all_eq_true.1 hq g hg
  simpa [Goroutine.LeavesIn] using h

theorem leaving_of_handed {a : Assume} {C : Checked} {os : Os} {f : FuncId} {r : Reach} {Pre : World → Array Value → Prop} {Post : World → Array Value → Value → World → Prop}
    (h : ReturnsInHanded a C os f r Pre Post) : ReturnsInLeavingWide a C os f r Pre Post := fun enter =>
  ReturnsInOpen.mono (fun _ _ _ x => leaving_of_alone _ x) (fun _ x => x) (h enter)
end Go.Proofs.Ytonfmgdikgedfaa.Leave
