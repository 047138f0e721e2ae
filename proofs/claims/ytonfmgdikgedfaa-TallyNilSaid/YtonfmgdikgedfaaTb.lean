/- Walks of the counters of package tally, second part. -/
import Derived.Test.YtonfmgdikgedfaaTa
set_option maxRecDepth 100000
set_option linter.unusedVariables false
set_option linter.unusedSimpArgs false
namespace Go.Proofs.Ytonfmgdikgedfaa.Ta
open Go.ChangeShapes Go.WideShapes Go.ChangeAt Go.RowKit

/-- Only blocks of D turn, of what was there. -/
structure Chg (D : Nat → Prop) (w w' : World) : Prop where
  os : w'.os = w.os
  tape : w'.tape = w.tape
  output : w'.output = w.output
  size : w.heap.size ≤ w'.heap.size
  block : ∀ k, k < w.heap.size → ¬ D k → w'.heap[k]? = w.heap[k]?

theorem add64 (x y : Int) (w : World) : (Op.intArith .add .i64 x y).run Try.prog w = .ok (.int .i64 (wrap64 (x + y))) w := by
  simp [go_sem, wrap64, IntKind.wrap_i64]

theorem Int64_Load (a : Addr) (x : Int) (w : World) (h : w.cell? a = some (.int .i64 x)) :
    Calls Try.prog 35 #[.pointer (some a)] w fun e w' => e = .returned (.int .i64 x) ∧ w = w' := by
  have hl := run_call_load (P := Try.prog) Try.func53 (by kernel_rfl) (by kernel_rfl) (by kernel_rfl) .i64 (by kernel_rfl) h
  go_enter Try.func35, Try.ntmps35
  go_wp2
  go_ret
  exact ⟨rfl, rfl⟩

theorem Int64_Add (a : Addr) (x y : Int) (w : World) (h : w.cell? a = some (.int .i64 x)) (hz : w.frozen? a = false) :
    Calls Try.prog 34 #[.pointer (some a), .int .i64 y] w fun e w' => e = .returned (.int .i64 (wrap64 (x + y))) ∧ w' = w.setCell a (.int .i64 (wrap64 (x + y))) := by
  have hl := run_call_add (P := Try.prog) Try.func52 (by kernel_rfl) (by kernel_rfl) (by kernel_rfl) .i64 (by kernel_rfl) h hz (add64 x y w)
  go_enter Try.func34, Try.ntmps34
  go_wp2
  go_ret
  exact ⟨rfl, rfl⟩

theorem Int64_CAS (a : Addr) (x y : Int) (w : World) (h : w.cell? a = some (.int .i64 x)) (hz : w.frozen? a = false) :
    Calls Try.prog 36 #[.pointer (some a), .int .i64 x, .int .i64 y] w fun e w' => e = .returned (.bool true) ∧ w' = w.setCell a (.int .i64 y) := by
  have hl := run_call_cas_hit (P := Try.prog) Try.func54 (by kernel_rfl) (by kernel_rfl) (by kernel_rfl) .i64 (by kernel_rfl) (y := y) h hz
  go_enter Try.func36, Try.ntmps36
  go_wp2
  go_ret
  exact ⟨rfl, rfl⟩

theorem Read_ok (b c : Nat) (xs : List Int) (k : Int) (w : World) (h : Tly w b c xs) (h0 : 0 ≤ k) (h1 : k < xs.length) :
    Calls Try.prog 14 #[.pointer (some ⟨b, 0, none⟩), .int .i64 k] w fun e w' => e = .returned (.tuple #[.int .i64 (nth xs k), .int .i64 0]) ∧ w = w' := by
  have hc : w.cell? ⟨c, k.toNat, none⟩ = some (.int .i64 (nth xs k)) := by have := h.row k.toNat (by omega); rwa [Int.toNat_of_nonneg h0] at this
  go_enter Try.func14, Try.ntmps14
  go_wp2_with fail
  refine (at_ok b c xs k _ h h0 h1).mono ?_
  rintro e w' ⟨rfl, rfl⟩
  go_wp2_with fail
  refine (Int64_Load _ _ _ hc).mono ?_
  rintro e w' ⟨rfl, rfl⟩
  go_wp2
  go_ret2
  exact ⟨rfl, rfl⟩

theorem Read_out (b c : Nat) (xs : List Int) (k : Int) (w : World) (h : Tly w b c xs) (h0 : k < 0 ∨ xs.length ≤ k) :
    Calls Try.prog 14 #[.pointer (some ⟨b, 0, none⟩), .int .i64 k] w fun e w' => e = .returned (.tuple #[.int .i64 0, .int .i64 3]) ∧ w = w' := by
  go_enter Try.func14, Try.ntmps14
  go_wp2_with fail
  refine (at_out b c xs k _ h h0).mono ?_
  rintro e w' ⟨rfl, rfl⟩
  go_wp2
  go_ret2
  exact ⟨rfl, rfl⟩

theorem Add_ok (b c : Nat) (xs : List Int) (k y : Int) (w : World) (h : Tly w b c xs) (h0 : 0 ≤ k) (h1 : k < xs.length) :
    Calls Try.prog 13 #[.pointer (some ⟨b, 0, none⟩), .int .i64 k, .int .i64 y] w fun e w' => e = .returned (.tuple #[.int .i64 (wrap64 (nth xs k + y)), .int .i64 0]) ∧
      w' = w.setCell ⟨c, k.toNat, none⟩ (.int .i64 (wrap64 (nth xs k + y))) := by
  have hc : w.cell? ⟨c, k.toNat, none⟩ = some (.int .i64 (nth xs k)) := by have := h.row k.toNat (by omega); rwa [Int.toNat_of_nonneg h0] at this
  have hz := h.thaw k.toNat
  go_enter Try.func13, Try.ntmps13
  go_wp2_with fail
  refine (at_ok b c xs k _ h h0 h1).mono ?_
  rintro e w' ⟨rfl, rfl⟩
  go_wp2_with fail
  refine (Int64_Add _ _ _ _ hc hz).mono ?_
  rintro e w' ⟨rfl, rfl⟩
  go_wp2
  go_ret2
  exact ⟨rfl, rfl⟩

theorem Add_out (b c : Nat) (xs : List Int) (k y : Int) (w : World) (h : Tly w b c xs) (h0 : k < 0 ∨ xs.length ≤ k) :
    Calls Try.prog 13 #[.pointer (some ⟨b, 0, none⟩), .int .i64 k, .int .i64 y] w fun e w' => e = .returned (.tuple #[.int .i64 0, .int .i64 3]) ∧ w = w' := by
  go_enter Try.func13, Try.ntmps13
  go_wp2_with fail
  refine (at_out b c xs k _ h h0).mono ?_
  rintro e w' ⟨rfl, rfl⟩
  go_wp2
  go_ret2
  exact ⟨rfl, rfl⟩

theorem Most_ok (b c : Nat) (xs : List Int) (k n : Int) (w : World) (h : Tly w b c xs) (h0 : 0 ≤ k) (h1 : k < xs.length) :
    Calls Try.prog 15 #[.pointer (some ⟨b, 0, none⟩), .int .i64 k, .int .i64 n] w fun e w' =>
      (n ≤ nth xs k ∧ e = .returned (.tuple #[.int .i64 (nth xs k), .int .i64 0]) ∧ w = w') ∨
      (nth xs k < n ∧ e = .returned (.tuple #[.int .i64 n, .int .i64 0]) ∧ w' = w.setCell ⟨c, k.toNat, none⟩ (.int .i64 n)) := by
  have hc : w.cell? ⟨c, k.toNat, none⟩ = some (.int .i64 (nth xs k)) := by have := h.row k.toNat (by omega); rwa [Int.toNat_of_nonneg h0] at this
  have hz := h.thaw k.toNat
  by_cases hn : n ≤ nth xs k
  · have key : Calls Try.prog 15 #[.pointer (some ⟨b, 0, none⟩), .int .i64 k, .int .i64 n] w fun e w' =>
      e = .returned (.tuple #[.int .i64 (nth xs k), .int .i64 0]) ∧ w = w' := by
      go_enter Try.func15, Try.ntmps15
      go_wp2_with fail
      refine (at_ok b c xs k _ h h0 h1).mono ?_
      rintro e w' ⟨rfl, rfl⟩
      go_wp2_with fail
      refine wp_loop_rounds 1 ?_; rw [rounds_succ]
      go_wp2_with fail
      refine (Int64_Load _ _ _ hc).mono ?_
      rintro e w' ⟨rfl, rfl⟩
      go_wp2
      go_ret2
      exact ⟨rfl, rfl⟩
    exact key.mono fun e w' ⟨h1, h2⟩ => .inl ⟨hn, h1, h2⟩
  · have key : Calls Try.prog 15 #[.pointer (some ⟨b, 0, none⟩), .int .i64 k, .int .i64 n] w fun e w' =>
      e = .returned (.tuple #[.int .i64 n, .int .i64 0]) ∧ w' = w.setCell ⟨c, k.toNat, none⟩ (.int .i64 n) := by
      go_enter Try.func15, Try.ntmps15
      go_wp2_with fail
      refine (at_ok b c xs k _ h h0 h1).mono ?_
      rintro e w' ⟨rfl, rfl⟩
      go_wp2_with fail
      refine wp_loop_rounds 1 ?_; rw [rounds_succ]
      go_wp2_with fail
      refine (Int64_Load _ _ _ hc).mono ?_
      rintro e w' ⟨rfl, rfl⟩
      go_wp2_with fail
      refine (Int64_CAS _ _ _ _ hc hz).mono ?_
      rintro e w' ⟨rfl, rfl⟩
      go_wp2
      go_ret2
      exact ⟨rfl, rfl⟩
    exact key.mono fun e w' ⟨h1, h2⟩ => .inr ⟨by omega, h1, h2⟩

theorem info83 : (Try.prog.info? 83).map (fun i => (i.zero, i.size, i.bytes)) = some (some (.agg #[.int .i64 0]), 1, 8) := by kernel_rfl

theorem New_bad (n : Int) (w : World) (h : n < 1 ∨ 64 < n) :
    Calls Try.prog 12 #[.int .i64 n] w fun e w' => e = .returned (.tuple #[.pointer none, .int .i64 7]) ∧ w = w' := by
  rcases h with h | h
  · go_enter Try.func12, Try.ntmps12
    go_wp2
    go_ret2
    exact ⟨rfl, rfl⟩
  · have h' : ¬ n < 1 := by omega
    go_enter Try.func12, Try.ntmps12
    go_wp2
    go_ret2
    exact ⟨rfl, rfl⟩

/-- A store into one cell turns its block alone. -/
theorem Chg.setCell (w : World) (c k : Nat) (v : Value) : Chg (· = c) w (w.setCell ⟨c, k, none⟩ v) :=
  ⟨rfl, rfl, rfl, by simp [World.setCell], fun j _ hj => Below.heap_setCell _ _ _ _ hj⟩

theorem Tly.size {w : World} {b c : Nat} {xs : List Int} (h : Tly w b c xs) : b < w.heap.size :=
  World.block_lt_of_cell? w _ h.head

/-- A tally stands where its two blocks stand. -/
theorem Tly.same {w w' : World} {b c : Nat} {xs : List Int} (h : Tly w b c xs) (hb : w'.heap[b]? = w.heap[b]?) (hc : w'.heap[c]? = w.heap[c]?) : Tly w' b c xs := by
  obtain ⟨h1, h2, h3, h4, h5⟩ := h
  exact ⟨h1, (World.cell?_of_block (w := w) (a := ⟨b, 0, none⟩) hb).trans h2, fun i hi => (World.cell?_of_block (w := w) (a := ⟨c, i, none⟩) hc).trans (h3 i hi), fun i => (World.frozen?_of_block (w := w) (a := ⟨c, i, none⟩) hc).trans (h4 i), h5⟩

theorem nth_nat (xs : List Int) (i : Nat) : nth xs i = xs.getD i 0 := rfl

/-- A counter is set. -/
theorem Tly.set {w : World} {b c : Nat} {xs : List Int} (h : Tly w b c xs) (k : Int) (h0 : 0 ≤ k) (h1 : k < xs.length) (v : Int) : Tly (w.setCell ⟨c, k.toNat, none⟩ (.int .i64 v)) b c (xs.set k.toNat v) := by
  obtain ⟨g1, g2, g3, g4, g5⟩ := h
  refine ⟨g1, ?_, fun i hi => ?_, fun i => ?_, by simpa using g5⟩
  · rw [World.cell?_setCell_other _ _ _ _ (by simp <;> omega)]
    simpa using g2
  · have hi' : i < xs.length := by simpa using hi
    by_cases e : i = k.toNat
    · subst e
      rw [World.cell?_setCell_same _ _ _ (g3 k.toNat hi')]
      rw [nth_nat]; simp [hi', List.getD]
    · rw [World.cell?_setCell_other _ _ _ _ (by simp <;> omega), g3 i hi']
      rw [nth_nat, nth_nat]; simp [List.getD, List.getElem?_set, Ne.symm e]
  · simpa using g4 i

theorem New_ok (n : Nat) (w : World) (h : 1 ≤ n) (h' : n ≤ 64) :
    Calls Try.prog 12 #[.int .i64 n] w fun e w' => ∃ b c, e = .returned (.tuple #[.pointer (some ⟨b, 0, none⟩), .int .i64 0]) ∧ Tly w' b c (List.replicate n 0) ∧ Below w.heap.size w w' ∧ w.heap.size ≤ b ∧ w.heap.size ≤ c ∧ b < w'.heap.size ∧ c < w'.heap.size := by
  obtain ⟨i0, hi, hz0, hz1, hz2⟩ := info_parts info83
  have key : Calls Try.prog 12 #[.int .i64 n] w fun e w' => ∃ w1, e = .returned (.tuple #[.pointer (some ⟨w1.heap.size, 0, none⟩), .int .i64 0]) ∧ w1.ownsRow w.heap.size 83 1 (Value.slice (some ⟨w.heap.size, 0, none⟩) n n) n (madeCells (Value.agg #[Value.int IntKind.i64 0]).cells (n * 1)).toList ∧ w.grownBy w1 none ∧ w' = w1.alloc (Obj.cells #[Value.slice (some ⟨w.heap.size, 0, none⟩) n n] 64) := by
    go_enter Try.func12, Try.ntmps12
    go_wp2_with (at_make; refine wpList_make_full _ rfl _ _ 62 rfl w.heap.size 83 i0 _ 1 Try.underlying62 hi hz0 hz1 .i64 .i64 _ _ n rfl rfl rfl rfl (by rw [hz2]; omega) (by unfold maxLen; omega) (Nat.le_refl _) ?_; intro w1 hown hgrow)
    go_ret2
    exact ⟨w1, rfl, hown, hgrow, rfl⟩
  refine key.mono ?_
  rintro e w' ⟨w1, rfl, hown, hgrow, rfl⟩
  obtain ⟨hl, h2⟩ := hown
  obtain ⟨h2, h3⟩ | ⟨g, cap, cur, hv, hg, hh, hcap, _, hcur, htake⟩ := h2
  · cases h2
  · obtain ⟨rfl, rfl⟩ : w.heap.size = g ∧ n = cap := by
      injection hv with e1 _ e2
      injection e1 with e1
      injection e1 with e1
      exact ⟨e1, e2⟩
    have hlt : w.heap.size < w1.heap.size := by
      rcases Nat.lt_or_ge w.heap.size w1.heap.size with h | h
      · exact h
      · simp [Array.getElem?_eq_none h] at hh
    have hh' : ∀ o, (w1.alloc o).heap[w.heap.size]? = some (.cells cur 83 (0, 0)) := fun o => (Below.heap_alloc w1 o _ hlt).trans hh
    refine ⟨w1.heap.size, w.heap.size, rfl, ⟨by omega, by simp, fun i hi => ?_, fun i => ?_, by simpa using h'⟩, ?_, ?_, Nat.le_refl _, by simp, by simp; omega⟩
    · have hin : i < n := by simpa using hi
      rw [Nat.mul_one] at hcur
      have e1 : cur.toList = (madeCells (Value.agg #[Value.int IntKind.i64 0]).cells (n * 1)).toList := by
        rw [← htake, List.take_of_length_le (by simp [hcur])]
      have e2 : cur = madeCells (Value.agg #[Value.int IntKind.i64 0]).cells (n * 1) := by
        exact Array.toList_inj.mp e1
      simp only [World.cell?, hh']
      simp [e2, madeCells, Value.cells, hin, nth, List.getD, Nat.mod_one]
    · simp [World.frozen?, hh']
    · exact (Below.refl _ _).trans ⟨hgrow.os, hgrow.tape, hgrow.output, by simp; omega, fun k hk => by
        rw [Below.heap_alloc _ _ _ (by omega)]
        exact hgrow.block k hk (by simp)⟩
    · omega
end Go.Proofs.Ytonfmgdikgedfaa.Ta
