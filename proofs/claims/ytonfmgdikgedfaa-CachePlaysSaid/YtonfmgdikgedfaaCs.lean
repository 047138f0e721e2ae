/- Caches: one entry; none. -/
import Derived.Test.YtonfmgdikgedfaaCp
import Derived.Laws.LoneSync
import Derived.Lib.Builder
set_option maxRecDepth 100000
set_option maxHeartbeats 1000000
set_option linter.unusedVariables false
set_option linter.unusedSimpArgs false
namespace Go.Proofs.Ytonfmgdikgedfaa.Cm
open Go.RowKit Bs Go.Lib

section
variable {P : Program} {f : Nat} {fn : Func}
theorem run_loadP (hf : P.funcs[f]? = some fn) (hname : (fn.name == "runtime.NumGoroutine") = false) (hb : fn.body.isNone = true) (hn : Extern.findNext fn = none)
    (he : Extern.find fn = some (Extern.Atomic.loadT .ptr)) {a : Addr} {x : Option Addr} {w : World} (hc : w.cell? a = some (.pointer x)) :
    (callFunc f #[.pointer (some a)]).run P w = .ok (.value (.pointer x)) w := by
  rw [run_callFunc_extern hf hname hb hn he]
  change (Sem.run P (do Extern.Atomic.read .ptr (← asAddr (.pointer (some a)))) w).andThen _ = _
  simp [Extern.Atomic.read, asAddr, hc, Result.andThen]
theorem run_storeP (hf : P.funcs[f]? = some fn) (hname : (fn.name == "runtime.NumGoroutine") = false) (hb : fn.body.isNone = true) (hn : Extern.findNext fn = none)
    (he : Extern.find fn = some Extern.Atomic.storeT) {a : Addr} {y : Option Addr} {u : Value} {w : World} (hc : w.cell? a = some u) (hz : w.frozen? a = false) :
    (callFunc f #[.pointer (some a), .pointer y]).run P w = .ok (.value (.tuple #[])) (w.setCell a (.pointer y)) := by
  rw [run_callFunc_extern hf hname hb hn he]
  change (Sem.run P (do
    store (← asAddr (.pointer (some a))) (.pointer y) .atomic
    pure Extern.Atomic.none_) w).andThen _ = _
  simp [asAddr, hc, hz, run_store P w a (.pointer y) .atomic rfl, Result.andThen, Extern.Atomic.none_]
theorem run_swapP (hf : P.funcs[f]? = some fn) (hname : (fn.name == "runtime.NumGoroutine") = false) (hb : fn.body.isNone = true) (hn : Extern.findNext fn = none)
    (he : Extern.find fn = some (Extern.Atomic.swapT .ptr)) {a : Addr} {x y : Option Addr} {w : World} (hc : w.cell? a = some (.pointer x)) (hz : w.frozen? a = false) :
    (callFunc f #[.pointer (some a), .pointer y]).run P w = .ok (.value (.pointer x)) (w.setCell a (.pointer y)) := by
  rw [run_callFunc_extern hf hname hb hn he]
  change (Sem.run P (do
    let a' ← asAddr (.pointer (some a))
    let old ← Extern.Atomic.read .ptr a'
    store a' (.pointer y) .atomic
    pure old) w).andThen _ = _
  simp [Extern.Atomic.read, asAddr, hc, hz, run_store P w a (.pointer y) .atomic rfl, Result.andThen]
end

/-- An entry of its own block. -/
def EntIs (w : World) (q : Nat) (e : KV) : Prop := w.heap[q]? = some (.cells #[.int .i64 e.1, .int .i64 e.2] 113 (0, 0))
theorem EntIs.c0 {w : World} {q : Nat} {e : KV} (h : EntIs w q e) : w.cell? ⟨q, 0, none⟩ = some (.int .i64 e.1) := by unfold EntIs at h; simp [World.cell?, h]
theorem EntIs.c1 {w : World} {q : Nat} {e : KV} (h : EntIs w q e) : w.cell? ⟨q, 1, none⟩ = some (.int .i64 e.2) := by unfold EntIs at h; simp [World.cell?, h]
theorem EntIs.lt {w : World} {q : Nat} {e : KV} (h : EntIs w q e) : q < w.heap.size := World.block_lt_of_cell? w _ h.c0
theorem conv_to (w : World) (q : Nat) (e : KV) (h : EntIs w q e) : (convert 97 99 (.pointer (some ⟨q, 0, none⟩))).run Try.prog w = .ok (.pointer (some ⟨q, 0, none⟩)) w :=
  run_convert_to_unsafe Try.underlying97 Try.underlying99 (by kernel_rfl) h.c0
theorem conv_from (w : World) (q : Nat) (e : KV) (h : EntIs w q e) : (convert 99 97 (.pointer (some ⟨q, 0, none⟩))).run Try.prog w = .ok (.pointer (some ⟨q, 0, none⟩)) w := by
  obtain ⟨i0, hi, _⟩ := info_parts info_entry
  exact run_from_unsafe w (e := 113) (cells := 2) ⟨q, 0, none⟩ Try.underlying99 Try.underlying97 hi (by unfold EntIs at h; simp [World.shape?, h]) (by kernel_rfl)
theorem conv_to0 (w : World) : (convert 97 99 (.pointer none)).run Try.prog w = .ok (.pointer none) w := by kernel_rfl
theorem conv_from0 (w : World) : (convert 99 97 (.pointer none)).run Try.prog w = .ok (.pointer none) w := by kernel_rfl

theorem PLoad0 {w : World} {a : Addr} (h : w.cell? a = some (.pointer none)) :
    Calls Try.prog 112 #[.pointer (some a)] w fun e w' => e = .returned (.pointer none) ∧ w = w' := by
  have hl := run_loadP (P := Try.prog) Try.func115 (by kernel_rfl) (by kernel_rfl) (by kernel_rfl) (by kernel_rfl) h
  have hv := conv_from0
  go_enter Try.func112, Try.ntmps112
  go_wp2
  go_ret
  exact ⟨rfl, rfl⟩
theorem PLoad1 {w : World} {a : Addr} {q : Nat} {e : KV} (h : w.cell? a = some (.pointer (some ⟨q, 0, none⟩))) (he : EntIs w q e) :
    Calls Try.prog 112 #[.pointer (some a)] w fun e w' => e = .returned (.pointer (some ⟨q, 0, none⟩)) ∧ w = w' := by
  have hl := run_loadP (P := Try.prog) Try.func115 (by kernel_rfl) (by kernel_rfl) (by kernel_rfl) (by kernel_rfl) h
  have hv := conv_from w q e he
  clear he
  go_enter Try.func112, Try.ntmps112
  go_wp2
  go_ret
  exact ⟨rfl, rfl⟩
theorem PStore0 {w : World} {a : Addr} {u : Value} (h : w.cell? a = some u) (hz : w.frozen? a = false) :
    Calls Try.prog 113 #[.pointer (some a), .pointer none] w fun e w' => e = .returned (.tuple #[]) ∧ w' = w.setCell a (.pointer none) := by
  have hl := run_storeP (P := Try.prog) Try.func116 (by kernel_rfl) (by kernel_rfl) (by kernel_rfl) (by kernel_rfl) (y := none) h hz
  have hv := conv_to0
  go_enter Try.func113, Try.ntmps113
  go_wp2
  go_end0
  exact ⟨rfl, rfl⟩
theorem PSwap0 {w : World} {a : Addr} {q : Nat} {e : KV} (h : w.cell? a = some (.pointer none)) (hz : w.frozen? a = false) (he : EntIs w q e) :
    Calls Try.prog 114 #[.pointer (some a), .pointer (some ⟨q, 0, none⟩)] w fun r w' => r = .returned (.pointer none) ∧ w' = w.setCell a (.pointer (some ⟨q, 0, none⟩)) := by
  have hl := run_swapP (P := Try.prog) Try.func117 (by kernel_rfl) (by kernel_rfl) (by kernel_rfl) (by kernel_rfl) (y := some ⟨q, 0, none⟩) h hz
  have hv := conv_from0
  have hu := conv_to w q e he
  clear he
  go_enter Try.func114, Try.ntmps114
  go_wp2
  go_ret
  exact ⟨rfl, rfl⟩
theorem PSwap1 {w : World} {b q q' : Nat} {e e' : KV} (h : w.cell? ⟨b, 0, none⟩ = some (.pointer (some ⟨q', 0, none⟩))) (hz : w.frozen? ⟨b, 0, none⟩ = false) (he : EntIs w q e) (he' : EntIs w q' e') (hb : q' ≠ b) :
    Calls Try.prog 114 #[.pointer (some ⟨b, 0, none⟩), .pointer (some ⟨q, 0, none⟩)] w fun r w' => r = .returned (.pointer (some ⟨q', 0, none⟩)) ∧ w' = w.setCell ⟨b, 0, none⟩ (.pointer (some ⟨q, 0, none⟩)) := by
  have hl := run_swapP (P := Try.prog) Try.func117 (by kernel_rfl) (by kernel_rfl) (by kernel_rfl) (by kernel_rfl) (y := some ⟨q, 0, none⟩) h hz
  have hv := conv_from (w.setCell ⟨b, 0, none⟩ (.pointer (some ⟨q, 0, none⟩))) q' e' ((heap_setCell_other _ _ _ _ hb).trans he')
  have hu := conv_to w q e he
  clear he he' hb
  go_enter Try.func114, Try.ntmps114
  go_wp2
  go_ret
  exact ⟨rfl, rfl⟩

/-- One entry in memory, or none: its struct is block b. -/
structure SingleAt (w : World) (b : Nat) (s : List KV) (q : Option Nat) : Prop where
  thaw : ∀ j, w.frozen? ⟨b, j, none⟩ = false
  cell : w.cell? ⟨b, 0, none⟩ = some (.pointer (q.map fun q => ⟨q, 0, none⟩))
  ent : (q = none ∧ s = []) ∨ ∃ q' e, q = some q' ∧ s = [e] ∧ EntIs w q' e ∧ q' ≠ b
/-- The blocks of one entry. -/
def Blk1 (b : Nat) (q : Option Nat) (k : Nat) : Prop := k = b ∨ q = some k
theorem SingleAt.live {w : World} {b : Nat} {s : List KV} {q : Option Nat} (h : SingleAt w b s q) {k : Nat} (hk : Blk1 b q k) : k < w.heap.size := by
  rcases hk with rfl | hk
  · exact World.block_lt_of_cell? w _ h.cell
  · rcases h.ent with ⟨h1, _⟩ | ⟨q', e, h1, _, h2, _⟩
    · rw [h1] at hk; cases hk
    · rw [h1] at hk
      obtain rfl := Option.some.inj hk
      exact h2.lt
theorem SingleAt.alike {w w' : World} {b : Nat} {s : List KV} {q : Option Nat} (h : SingleAt w b s q) (ha : ∀ k, Blk1 b q k → w'.heap[k]? = w.heap[k]?) : SingleAt w' b s q where
  thaw := fun j => (World.frozen?_of_block (w := w) (a := ⟨b, j, none⟩) (ha _ (.inl rfl))).trans (h.thaw j)
  cell := (World.cell?_of_block (w := w) (a := ⟨b, 0, none⟩) (ha _ (.inl rfl))).trans h.cell
  ent := by
    rcases h.ent with h1 | ⟨q', e, h1, h2, h3, h4⟩
    · exact .inl h1
    · exact .inr ⟨q', e, h1, h2, (ha q' (.inr h1)).trans h3, h4⟩

theorem SgGet {w : World} {b : Nat} {s : List KV} {q : Option Nat} (h : SingleAt w b s q) (key : Int) :
    Calls Try.prog 110 #[.pointer (some ⟨b, 0, none⟩), .int .i64 key] w fun e w' => e = .returned (.tuple #[.int .i64 (getV s key).1, .bool (getV s key).2]) ∧ w = w' := by
  have hc := h.cell
  rcases h.ent with ⟨rfl, rfl⟩ | ⟨q', e, rfl, rfl, he, hne⟩
  · have HL := Lib.hid (PLoad0 hc)
    have e1 : getV [] key = (0, false) := rfl
    rw [e1]
    clear h hc e1
    go_enter Try.func110, Try.ntmps110
    go_wp2_with fail
    refine HL.out.mono ?_
    rintro e w' ⟨rfl, rfl⟩
    go_wp2
    go_ret2
    exact ⟨rfl, rfl⟩
  · have HL := Lib.hid (PLoad1 hc he)
    have g0 := he.c0
    have g1 := he.c1
    by_cases hk : e.1 = key
    · have e1 : getV [e] key = (e.2, true) := by simp [getV, ent?, hk]
      rw [e1]
      have hb : (e.1 == key) = true := by simpa using hk
      clear h hc e1 he hne hk
      go_enter Try.func110, Try.ntmps110
      go_wp2_with fail
      refine HL.out.mono ?_
      rintro r w' ⟨rfl, rfl⟩
      go_wp2
      go_ret2
      exact ⟨rfl, rfl⟩
    · have e1 : getV [e] key = (0, false) := by simp [getV, ent?, hk]
      rw [e1]
      have hb : (e.1 == key) = false := by simpa using hk
      clear h hc e1 he hne hk
      go_enter Try.func110, Try.ntmps110
      go_wp2_with fail
      refine HL.out.mono ?_
      rintro r w' ⟨rfl, rfl⟩
      go_wp2
      go_ret2
      exact ⟨rfl, rfl⟩

theorem Row.ownB {w : World} {b cap B : Nat} {s : List KV} (h : Row w b cap s) (hB : B ≤ b) : w.ownsRow B 113 2 (.slice (some ⟨b, 0, none⟩) s.length cap) s.length (ents s) := by
  refine ⟨h.own.1, h.own.2.elim .inl fun ⟨q, c, cur, e, _, r⟩ => .inr ⟨q, c, cur, e, ?_, r⟩⟩
  have e' := e
  simp at e'
  omega
theorem SgAll {w : World} {b : Nat} {s : List KV} {q : Option Nat} (h : SingleAt w b s q) :
    Calls Try.prog 108 #[.pointer (some ⟨b, 0, none⟩)] w fun e w' => ∃ v, e = .returned v ∧ w'.ownsRow w.heap.size 113 2 v s.length (ents s) ∧ Below w.heap.size w w' := by
  have hc := h.cell
  rcases h.ent with ⟨rfl, rfl⟩ | ⟨q', e, rfl, rfl, he, hne⟩
  · have HL := Lib.hid (PLoad0 hc)
    clear h hc
    go_enter Try.func108, Try.ntmps108
    go_wp2_with fail
    refine HL.out.mono ?_
    rintro e w' ⟨rfl, rfl⟩
    go_wp2
    go_ret
    exact ⟨_, rfl, World.ownsRow_nil _ _ _ _, Below.refl _ _⟩
  · have HL := Lib.hid (PLoad1 hc he)
    have g0 := he.c0
    have g1 := he.c1
    have HB : Hid (Below w.heap.size w (w.alloc (.cells #[.int .i64 e.1, .int .i64 e.2] 113)) ∧ Row (w.alloc (.cells #[.int .i64 e.1, .int .i64 e.2] 113)) w.heap.size 1 [e]) := Lib.hid (by
      have hn := heap_alloc_new w (.cells #[.int .i64 e.1, .int .i64 e.2] 113)
      refine ⟨(Below.refl _ _).alloc (Nat.le_refl _) _, by simp, by unfold maxLen; omega, ⟨_, hn, rfl⟩, fun j v hj => ?_⟩
      simp only [World.cell?, hn]
      simpa [ents, kvCells] using hj)
    clear h hc he hne
    go_enter Try.func108, Try.ntmps108
    go_wp2_with fail
    refine HL.out.mono ?_
    rintro r w' ⟨rfl, rfl⟩
    go_wp2
    go_ret
    exact ⟨_, rfl, HB.out.2.ownB (Nat.le_refl _), HB.out.1⟩

theorem SgClear {w : World} {b : Nat} {s : List KV} {q : Option Nat} (h : SingleAt w b s q) :
    Calls Try.prog 109 #[.pointer (some ⟨b, 0, none⟩)] w fun e w' => e = .returned (.tuple #[]) ∧ SingleAt w' b [] none ∧ Chg (Blk1 b q) w w' := by
  have HL := Lib.hid (PStore0 h.cell (h.thaw 0))
  have H := Lib.hid h
  clear h
  go_enter Try.func109, Try.ntmps109
  go_wp2_with fail
  refine HL.out.mono ?_
  rintro r w' ⟨rfl, rfl⟩
  go_wp2
  go_end0
  exact ⟨rfl, ⟨fun j => by rw [World.frozen?_setCell]; exact H.out.thaw j, setCell_same H.out.cell, .inl ⟨rfl, rfl⟩⟩, (Chg.refl _ _).setCell (a := ⟨b, 0, none⟩) (.inr (.inl rfl)) _⟩

/-- What stands behind the exchange, whatever is answered. -/
def SgF (w w1 : World) (b : Nat) (s : List KV) (q : Option Nat) (e : KV) : Prop := ∀ x : KV,
      EntIs w1 w.heap.size e ∧ (∀ e' q', q = some q' → s = [e'] → EntIs w1 q' e') ∧ w1.cell? ⟨w.heap.size + 1, 0, none⟩ = some (.int .i64 0) ∧ w1.cell? ⟨w.heap.size + 1, 1, none⟩ = some (.int .i64 0) ∧ (∀ j, w1.frozen? ⟨w.heap.size + 1, j, none⟩ = false) ∧
      SingleAt ((w1.setCell ⟨w.heap.size + 1, 0, none⟩ (.int .i64 x.1)).setCell ⟨w.heap.size + 1, 1, none⟩ (.int .i64 x.2)) b [e] (some w.heap.size) ∧
      Chg (Blk1 b q) w ((w1.setCell ⟨w.heap.size + 1, 0, none⟩ (.int .i64 x.1)).setCell ⟨w.heap.size + 1, 1, none⟩ (.int .i64 x.2)) ∧
      (∀ j (h : j < [(Value.int .i64 x.1), (Value.int .i64 x.2)].length), ((w1.setCell ⟨w.heap.size + 1, 0, none⟩ (.int .i64 x.1)).setCell ⟨w.heap.size + 1, 1, none⟩ (.int .i64 x.2)).cell? ⟨w.heap.size + 1, j, none⟩ = some [(Value.int .i64 x.1), (Value.int .i64 x.2)][j])
/-- The world behind the entry's box, the result's, and the new entry. -/
theorem SgAfter {w : World} {b : Nat} {s : List KV} {q : Option Nat} (h : SingleAt w b s q) (e x : KV) :
    (∀ w1, w1 = ((w.alloc (.cells #[.int .i64 e.1, .int .i64 e.2] 113)).alloc (.cells #[.int .i64 0, .int .i64 0] 113)).setCell ⟨b, 0, none⟩ (.pointer (some ⟨w.heap.size, 0, none⟩)) →
      EntIs w1 w.heap.size e ∧ (∀ e' q', q = some q' → s = [e'] → EntIs w1 q' e') ∧ w1.cell? ⟨w.heap.size + 1, 0, none⟩ = some (.int .i64 0) ∧ w1.cell? ⟨w.heap.size + 1, 1, none⟩ = some (.int .i64 0) ∧ (∀ j, w1.frozen? ⟨w.heap.size + 1, j, none⟩ = false) ∧
      SingleAt ((w1.setCell ⟨w.heap.size + 1, 0, none⟩ (.int .i64 x.1)).setCell ⟨w.heap.size + 1, 1, none⟩ (.int .i64 x.2)) b [e] (some w.heap.size) ∧
      Chg (Blk1 b q) w ((w1.setCell ⟨w.heap.size + 1, 0, none⟩ (.int .i64 x.1)).setCell ⟨w.heap.size + 1, 1, none⟩ (.int .i64 x.2)) ∧
      (∀ j (h : j < [(Value.int .i64 x.1), (Value.int .i64 x.2)].length), ((w1.setCell ⟨w.heap.size + 1, 0, none⟩ (.int .i64 x.1)).setCell ⟨w.heap.size + 1, 1, none⟩ (.int .i64 x.2)).cell? ⟨w.heap.size + 1, j, none⟩ = some [(Value.int .i64 x.1), (Value.int .i64 x.2)][j])) := by
  rintro w1 rfl
  have hb := h.live (.inl rfl)
  have hB : Below w.heap.size w ((w.alloc (.cells #[.int .i64 e.1, .int .i64 e.2] 113)).alloc (.cells #[.int .i64 0, .int .i64 0] 113)) := ((Below.refl _ _).alloc (Nat.le_refl _) _).alloc (by simp) _
  have n0 : ((w.alloc (.cells #[.int .i64 e.1, .int .i64 e.2] 113)).alloc (.cells #[.int .i64 0, .int .i64 0] 113)).heap[w.heap.size]? = some (.cells #[.int .i64 e.1, .int .i64 e.2] 113 (0, 0)) := by
    rw [Below.heap_alloc _ _ _ (by simp)]
    exact heap_alloc_new w _
  have n1 := heap_alloc_new (w.alloc (.cells #[.int .i64 e.1, .int .i64 e.2] 113)) (.cells #[.int .i64 0, .int .i64 0] 113)
  rw [World.size_alloc] at n1
  have m0 := (heap_setCell_other ((w.alloc (.cells #[.int .i64 e.1, .int .i64 e.2] 113)).alloc (.cells #[.int .i64 0, .int .i64 0] 113)) ⟨b, 0, none⟩ w.heap.size (.pointer (some ⟨w.heap.size, 0, none⟩)) (by show w.heap.size ≠ b; omega)).trans n0
  have m1 := (heap_setCell_other ((w.alloc (.cells #[.int .i64 e.1, .int .i64 e.2] 113)).alloc (.cells #[.int .i64 0, .int .i64 0] 113)) ⟨b, 0, none⟩ (w.heap.size + 1) (.pointer (some ⟨w.heap.size, 0, none⟩)) (by show w.heap.size + 1 ≠ b; omega)).trans n1
  have c1 := below_cell' hB h.cell
  refine ⟨m0, fun e' q' hq hs => ?_, EntIs.c0 (e := (0, 0)) m1, EntIs.c1 (e := (0, 0)) m1, fun j => frozen_of_row _ _ j _ _ m1, ⟨fun j => ?_, ?_, .inr ⟨_, e, rfl, rfl, ?_, by omega⟩⟩, ?_, two (set2 (EntIs.c0 (e := (0, 0)) m1) (EntIs.c1 (e := (0, 0)) m1)).1 (set2 (EntIs.c0 (e := (0, 0)) m1) (EntIs.c1 (e := (0, 0)) m1)).2⟩
  · rcases h.ent with ⟨h1, _⟩ | ⟨q2, e2, h1, h2, h3, h4⟩
    · rw [h1] at hq; cases hq
    · rw [h1] at hq
      obtain rfl := Option.some.inj hq
      rw [h2] at hs
      obtain rfl : e2 = e' := by injection hs
      exact (heap_setCell_other _ ⟨b, 0, none⟩ _ _ h4).trans ((hB.block _ h3.lt).trans h3)
  · rw [World.frozen?_setCell, World.frozen?_setCell, World.frozen?_setCell]
    exact (hB.frozen (p := ⟨b, j, none⟩) hb).trans (h.thaw j)
  · rw [setCell_off (by omega), setCell_off (by omega)]
    exact setCell_same c1
  · exact ((heap_setCell_other _ ⟨w.heap.size + 1, 1, none⟩ w.heap.size _ (by simp)).trans ((heap_setCell_other _ ⟨w.heap.size + 1, 0, none⟩ w.heap.size _ (by simp)).trans m0))
  · exact (((Chg.of_below hB).setCell (a := ⟨b, 0, none⟩) (.inr (.inl rfl)) _).setCell (a := ⟨w.heap.size + 1, 0, none⟩) (.inl (by simp)) _).setCell (a := ⟨w.heap.size + 1, 1, none⟩) (.inl (by simp)) _

theorem SgPut {w : World} {b : Nat} {s : List KV} {q : Option Nat} (h : SingleAt w b s q) (e : KV) :
    Calls Try.prog 111 #[.pointer (some ⟨b, 0, none⟩), .agg #[.int .i64 e.1, .int .i64 e.2]] w fun r w' =>
      r = .returned (.tuple #[.agg #[.int .i64 (dropV (putD 1 s e)).1.1, .int .i64 (dropV (putD 1 s e)).1.2], .bool (dropV (putD 1 s e)).2]) ∧
      SingleAt w' b (putS 1 s e) (some w.heap.size) ∧ Chg (Blk1 b q) w w' ∧ w.heap.size < w'.heap.size := by
  have hb := h.live (.inl rfl)
  have hB : Below w.heap.size w ((w.alloc (.cells #[.int .i64 e.1, .int .i64 e.2] 113)).alloc (.cells #[.int .i64 0, .int .i64 0] 113)) := ((Below.refl _ _).alloc (Nat.le_refl _) _).alloc (by simp) _
  have hE : EntIs ((w.alloc (.cells #[.int .i64 e.1, .int .i64 e.2] 113)).alloc (.cells #[.int .i64 0, .int .i64 0] 113)) w.heap.size e := by
    unfold EntIs
    rw [Below.heap_alloc _ _ _ (by simp)]
    exact heap_alloc_new w _
  have hc := below_cell' hB h.cell
  have hf : ((w.alloc (.cells #[.int .i64 e.1, .int .i64 e.2] 113)).alloc (.cells #[.int .i64 0, .int .i64 0] 113)).frozen? ⟨b, 0, none⟩ = false := (hB.frozen (p := ⟨b, 0, none⟩) hb).trans (h.thaw 0)
  have hp : putS 1 s e = [e] := by unfold putS; simp
  rw [hp]
  have HSZ : Hid (∀ v v0 v1, w.heap.size < (((((w.alloc (.cells #[.int .i64 e.1, .int .i64 e.2] 113)).alloc (.cells #[.int .i64 0, .int .i64 0] 113)).setCell ⟨b, 0, none⟩ v).setCell ⟨w.heap.size + 1, 0, none⟩ v0).setCell ⟨w.heap.size + 1, 1, none⟩ v1).heap.size) := Lib.hid (fun v v0 v1 => by simp; omega)
  rcases h.ent with ⟨hq, hs⟩ | ⟨q', x, hq, hs, he, hne⟩
  · subst hq; subst hs
    have e1 : dropV (putD 1 [] e) = ((0, 0), false) := rfl
    rw [e1]
    have HL : Hid (Calls Try.prog 114 #[.pointer (some ⟨b, 0, none⟩), .pointer (some ⟨w.heap.size, 0, none⟩)] ((w.alloc (.cells #[.int .i64 e.1, .int .i64 e.2] 113)).alloc (.cells #[.int .i64 0, .int .i64 0] 113)) fun r w1 => r = .returned (.pointer none) ∧ SgF w w1 b [] none e ∧ w.heap.size + 2 ≤ w1.heap.size) := Lib.hid ((PSwap0 hc hf hE).mono fun r w1 ⟨h1, h2⟩ => ⟨h1, fun x => SgAfter h e x w1 h2, by rw [h2]; simp⟩)
    clear h hc hf hE e1 hp hB HSZ
    go_enter Try.func111, Try.ntmps111
    go_wp2_with fail
    refine HL.out.mono ?_
    rintro r w1 ⟨rfl, hA, hz⟩
    have HA := Lib.hid (And.intro hA hz)
    obtain ⟨_, _, k2, k3, k4, _⟩ := hA (0, 0)
    have g2 := k4 0
    have g3 := k4 1
    clear hA hz k4 HL
    go_wp2_with fail
    go_quiet (fail)
    go_wp2
    obtain ⟨_, _, _, _, _, h1, h2, h3⟩ := HA.out.1 (0, 0)
    exact bodyPost_ret (results_cells_tmp rfl _ _ _ _ _ rfl h3 Try.underlying113 rfl size_entry2) rfl ⟨rfl, h1.alike (fun _ _ => rfl), ⟨h2.os, h2.tape, h2.output, h2.size, h2.block⟩, by have := HA.out.2; simp; omega⟩
  · subst hq; subst hs
    have hc' : ((w.alloc (.cells #[.int .i64 e.1, .int .i64 e.2] 113)).alloc (.cells #[.int .i64 0, .int .i64 0] 113)).cell? ⟨b, 0, none⟩ = some (.pointer (some ⟨q', 0, none⟩)) := hc
    have he' : EntIs ((w.alloc (.cells #[.int .i64 e.1, .int .i64 e.2] 113)).alloc (.cells #[.int .i64 0, .int .i64 0] 113)) q' x := (hB.block _ he.lt).trans he
    have HL : Hid (Calls Try.prog 114 #[.pointer (some ⟨b, 0, none⟩), .pointer (some ⟨w.heap.size, 0, none⟩)] ((w.alloc (.cells #[.int .i64 e.1, .int .i64 e.2] 113)).alloc (.cells #[.int .i64 0, .int .i64 0] 113)) fun r w1 => r = .returned (.pointer (some ⟨q', 0, none⟩)) ∧ SgF w w1 b [x] (some q') e ∧ w.heap.size + 2 ≤ w1.heap.size) := Lib.hid ((PSwap1 hc' hf hE he' hne).mono fun r w1 ⟨h1, h2⟩ => ⟨h1, fun y => SgAfter h e y w1 h2, by rw [h2]; simp⟩)
    have HQ : Hid (q' ≠ w.heap.size + 1) := Lib.hid (by have := he.lt; omega)
    clear h hc hc' hf hE hp hB HSZ he he' hne
    by_cases hk : x.1 = e.1
    · have e1 : dropV (putD 1 [x] e) = ((0, 0), false) := by simp [putD, wo, hk, dropV]
      rw [e1]
      have hbk : (x.1 == e.1) = true := by simpa using hk
      clear e1 hk
      go_enter Try.func111, Try.ntmps111
      go_wp2_with fail
      refine HL.out.mono ?_
      rintro r w1 ⟨rfl, hA, hz⟩
      have HA := Lib.hid (And.intro hA hz)
      obtain ⟨k0, k1, k2, k3, k4, _⟩ := hA (0, 0)
      have g2 := k4 0
      have g3 := k4 1
      have g4 := k0.c0
      have g5 := (k1 _ _ rfl rfl).c0
      have hqi : ¬ (q' = w.heap.size + 1) := HQ.out
      clear hA hz k4 HL k0 k1
      go_wp2_with fail
      go_quiet (fail)
      go_wp2
      obtain ⟨_, _, _, _, _, h1, h2, h3⟩ := HA.out.1 (0, 0)
      exact bodyPost_ret (results_cells_tmp rfl _ _ _ _ _ rfl h3 Try.underlying113 rfl size_entry2) rfl ⟨rfl, h1.alike (fun _ _ => rfl), ⟨h2.os, h2.tape, h2.output, h2.size, h2.block⟩, by have := HA.out.2; simp; omega⟩
    · have e1 : dropV (putD 1 [x] e) = (x, true) := by simp [putD, wo, hk, dropV]
      rw [e1]
      have hbk : (x.1 == e.1) = false := by simpa using hk
      clear e1 hk
      go_enter Try.func111, Try.ntmps111
      go_wp2_with fail
      refine HL.out.mono ?_
      rintro r w1 ⟨rfl, hA, hz⟩
      have HA := Lib.hid (And.intro hA hz)
      obtain ⟨k0, k1, k2, k3, k4, _⟩ := hA x
      have g2 := k4 0
      have g3 := k4 1
      have g4 := k0.c0
      have g5 := (k1 _ _ rfl rfl).c0
      have g6 := (k1 _ _ rfl rfl).c1
      have hqi : ¬ (q' = w.heap.size + 1) := HQ.out
      clear hA hz k4 HL k0 k1
      go_wp2_with fail
      go_quiet (fail)
      go_wp2
      obtain ⟨_, _, _, _, _, h1, h2, h3⟩ := HA.out.1 x
      exact bodyPost_ret (results_cells_tmp rfl _ _ _ _ _ rfl h3 Try.underlying113 rfl size_entry2) rfl ⟨rfl, h1.alike (fun _ _ => rfl), ⟨h2.os, h2.tape, h2.output, h2.size, h2.block⟩, by have := HA.out.2; simp; omega⟩
end Go.Proofs.Ytonfmgdikgedfaa.Cm
