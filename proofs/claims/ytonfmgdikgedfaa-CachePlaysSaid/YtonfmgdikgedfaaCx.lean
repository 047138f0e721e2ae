/- Caches: slices.Delete at entries, find, first. -/
import Derived.Test.YtonfmgdikgedfaaCw
import Derived.StillTailTactics
set_option maxRecDepth 100000
set_option maxHeartbeats 1000000
set_option linter.unusedVariables false
set_option linter.unusedSimpArgs false
namespace Go.Proofs.Ytonfmgdikgedfaa.Cm
open Go.RowKit Bs Go.Lib

theorem ents_append (s r : List KV) : ents (s ++ r) = ents s ++ ents r := by
  unfold ents
  rw [List.map_append, List.flatten_append]
theorem ents_take (s : List KV) (p : Nat) : ents (s.take p) = (ents s).take (p * 2) := by
  induction s generalizing p with
  | nil => simp [ents]
  | cons e r ih =>
    cases p with
    | zero => simp [ents]
    | succ p =>
      rw [List.take_succ_cons, ents_cons, ents_cons, ih]
      rw [show (p + 1) * 2 = p * 2 + 2 by omega]
      simp [kvCells]

/-- Entries are laid behind the first p of a row, which has room. -/
theorem app_del {w : World} {b cap : Nat} {s : List KV} (h : Row w b cap s) (p q : Nat) (r : List KV) (hp : p ≤ s.length) (hq : r.length = q) (hc : p + q ≤ cap) (src : Addr) (c : Nat) (hn : ∀ j v, (ents r)[j]? = some v → w.cell? (src.add j) = some v) :
    ∃ W1, (∀ ty, (Builtin.append_ #[116, 116] ty #[.slice (some ⟨b, 0, none⟩) p cap, .slice (some src) q c]).run Try.prog w.drew = .ok (.slice (some ⟨b, 0, none⟩) (p + q) cap) W1) ∧
      Row W1 b cap (s.take p ++ r) ∧ Chg (fun k => k = b) w W1 := by
  obtain ⟨i0, hi0, hz0, hzs, hzb⟩ := info_parts info_entry
  obtain ⟨cur, hb, hsz⟩ := h.blk
  have hb' : w.drew.heap[b]? = some (.cells cur 113 (0, 0)) := hb
  have hel := ents_len r
  have hrun := fun ty => run_append_room (P := Try.prog) w.drew 116 ty 113 i0 Try.underlying116 hi0 b p cap cur hb' src q c (ents r) (by rw [hel, hzs, hq]) hn (ents_one r) hc (by rw [hzs, hel, hsz, hq]; omega)
  rw [hzs] at hrun
  refine ⟨_, hrun, ⟨by simp; omega, h.lim, ⟨_, setRow_heap _ _ _ _ _ _ hb', ?_⟩, fun j v hj => ?_⟩, ⟨rfl, rfl, rfl, by simp, fun k hk hf => setRow_other _ _ _ _ hf⟩⟩
  · simp [hel, hq, hsz]
    omega
  · have hh := setRow_heap w.drew b cur ((cur.toList.take (p * 2) ++ ents r ++ cur.toList.drop (p * 2 + (ents r).length)).toArray) _ _ hb'
    simp only [World.cell?, hh]
    have hts : cur.toList.take (p * 2) = ents (s.take p) := by
      rw [ents_take]
      apply List.ext_getElem?
      intro t
      by_cases ht : t < p * 2
      · rw [List.getElem?_take_of_lt ht, List.getElem?_take_of_lt ht]
        have hx : (ents s)[t]? = some ((ents s)[t]'(by rw [ents_len]; omega)) := List.getElem?_eq_getElem _
        have := h.cells t _ hx
        simp only [World.cell?, hb] at this
        rw [hx]
        simpa using this
      · rw [List.getElem?_eq_none (by simp; omega), List.getElem?_eq_none (by simp; omega)]
    rw [hts, ← ents_append]
    have hjl := (List.getElem?_eq_some_iff.1 hj).1
    have : ((ents (s.take p ++ r) ++ cur.toList.drop (p * 2 + (ents r).length)).toArray)[j]? = some v := by
      rw [List.getElem?_toArray, List.getElem?_append_left hjl]
      exact hj
    simpa using this

theorem clear_ents (w : World) (ty : TypeId) (b o c : Nat) (hc : ∀ j, j < 2 → (w.cell? ⟨b, o + j, none⟩).isSome = true) (hf : ∀ j, w.frozen? ⟨b, j, none⟩ = false) :
    (Builtin.clear_ #[116] ty #[.slice (some ⟨b, o, none⟩) 1 c]).run Try.prog w = .ok (.tuple #[]) (w.setCells b o [.int .i64 0, .int .i64 0]) := by
  have hv : ∀ w : World, (zeroValue 113).run Try.prog w = .ok (.agg #[.int .i64 0, .int .i64 0]) w := by
    obtain ⟨i0, hi0, hiz0, _⟩ := info_parts info_entry
    intro w
    simp [zeroValue, typeInfo, hi0, hiz0]
  have hzc : (Builtin.zeroCells #[.int .i64 0, .int .i64 0] 1).toList = [.int .i64 0, .int .i64 0] := by simp [Builtin.zeroCells, List.range_succ]
  have hst := run_storeCells_cells (P := Try.prog) b o [.int .i64 0, .int .i64 0] 0 w (by simpa using hc) (by intro j _; exact hf _) (by intro v hv'; simp at hv'; subst hv'; rfl)
  simp only [Nat.add_zero] at hst
  have hcs : (Value.agg #[.int .i64 0, .int .i64 0]).cells = #[.int .i64 0, .int .i64 0] := rfl
  simp [Builtin.clear_, run_underlying Try.underlying116, hv, hcs, hzc, hst]

/-- What is cleared behind a row leaves it. -/
theorem Row.cut {w : World} {b cap : Nat} {s : List KV} (h : Row w b cap s) (hc : s.length < cap) (ty : TypeId) (c : Nat) :
    (Builtin.clear_ #[116] ty #[.slice (some ⟨b, s.length * 2, none⟩) 1 c]).run Try.prog w = .ok (.tuple #[]) (w.setCells b (s.length * 2) [.int .i64 0, .int .i64 0]) ∧ Row (w.setCells b (s.length * 2) [.int .i64 0, .int .i64 0]) b cap s := by
  refine ⟨clear_ents w ty b _ c (fun j hj => h.room _ (by omega)) h.thaw, h.len, h.lim, ?_, fun j v hj => ?_⟩
  · obtain ⟨cur, hb, hsz⟩ := h.blk
    obtain ⟨c', h1, h2⟩ := blk_setCells [.int .i64 0, .int .i64 0] (s.length * 2) w cur hb
    exact ⟨c', h1, by omega⟩
  · have hjl := (List.getElem?_eq_some_iff.1 hj).1
    rw [ents_len] at hjl
    rw [World.cell?_setCells_out b _ _ _ _ (fun _ _ => .inl hjl)]
    exact h.cells j v hj

theorem Del10 {w : World} {b cap : Nat} {x : KV} (h : Row w b cap [x]) :
    Calls Try.prog 133 #[.slice (some ⟨b, 0, none⟩) 1 cap, .int .i64 0, .int .i64 1] w fun r w' => r = .returned (.slice (some ⟨b, 0, none⟩) 0 cap) ∧ Row w' b cap [] ∧ Chg (fun k => k = b) w w' := by
  have hcm : cap ≤ 9223372036854775807 := by have := h.lim; unfold maxLen at this; omega
  have hl : 1 ≤ cap := h.len
  by_cases hc1 : cap = 1
  · subst hc1
    obtain ⟨W1, hrun, hr, hchg⟩ := app_del h 0 0 [] (by simp) rfl (by omega) ⟨b, 0, none⟩ 0 (by intro j v hj; simp [ents] at hj)
    have hcut := fun ty => hr.cut (by simp) ty 1
    simp only [List.take_zero, List.nil_append, List.length_nil, Nat.zero_mul] at hcut hr hrun
    have HC := Lib.hid (hchg)
    have hcl := fun ty => (hcut ty).1
    have HR := Lib.hid ((hcut 0).2)
    clear hcut hr hchg h
    go_enter Try.func133, Try.ntmps133
    go_wp2_with fail
    go_still_tail 6, (by kernel_rfl)
    go_wp2_with (at_builtin; refine Lib.wpList_append_run _ rfl _ _ _ _ rfl _ _ rfl rfl _ _ (hrun _) ?_)
    go_ret
    exact ⟨rfl, HR.out, chg_setCells (F := fun k => k = b) rfl _ _ _ HC.out⟩
  · have hc2 : 1 < cap := by omega
    obtain ⟨W1, hrun, hr, hchg⟩ := app_del h 0 0 [] (by simp) rfl (by omega) ⟨b, 2, none⟩ (cap - 1) (by intro j v hj; simp [ents] at hj)
    have hcut := fun ty => hr.cut (by simp; omega) ty cap
    simp only [List.take_zero, List.nil_append, List.length_nil, Nat.zero_mul] at hcut hr hrun
    have HC := Lib.hid (hchg)
    have hcl := fun ty => (hcut ty).1
    have HR := Lib.hid ((hcut 0).2)
    clear hcut hr hchg h
    go_enter Try.func133, Try.ntmps133
    go_wp2_with fail
    go_still_tail 6, (by kernel_rfl)
    go_wp2_with (at_builtin; refine Lib.wpList_append_run _ rfl _ _ _ _ rfl _ _ rfl rfl _ _ (hrun _) ?_)
    go_ret
    exact ⟨rfl, HR.out, chg_setCells (F := fun k => k = b) rfl _ _ _ HC.out⟩

theorem Del20 {w : World} {b cap : Nat} {x y : KV} (h : Row w b cap [x, y]) :
    Calls Try.prog 133 #[.slice (some ⟨b, 0, none⟩) 2 cap, .int .i64 0, .int .i64 1] w fun r w' => r = .returned (.slice (some ⟨b, 0, none⟩) 1 cap) ∧ Row w' b cap [y] ∧ Chg (fun k => k = b) w w' := by
  have hcm : cap ≤ 9223372036854775807 := by have := h.lim; unfold maxLen at this; omega
  have hl : 2 ≤ cap := h.len
  have hc2 : 1 < cap := by omega
  have hne1 : ¬ cap = 1 := by omega
  have h1c : 1 ≤ cap := by omega
  have h1i : (1 : Int) ≤ (cap : Int) := by omega
  obtain ⟨W1, hrun, hr, hchg⟩ := app_del h 0 1 [y] (by simp) rfl (by omega) ⟨b, 2, none⟩ (cap - 1) (by
    intro j v hj
    rw [Addr.add_lit]
    refine h.cells (2 + j) v ?_
    rw [show ents [x, y] = kvCells x ++ ents [y] from rfl, List.getElem?_append_right (by simp [kvCells])]
    simpa [kvCells] using hj)
  have hcut := fun ty => hr.cut (by simp; omega) ty (cap - 1)
  simp only [List.take_zero, List.nil_append, List.length_singleton, Nat.one_mul, Nat.zero_add] at hcut hr hrun
  have HC := Lib.hid (hchg)
  have hcl := fun ty => (hcut ty).1
  have HR := Lib.hid ((hcut 0).2)
  clear hcut hr hchg h
  go_enter Try.func133, Try.ntmps133
  go_wp2_with fail
  go_still_tail 6, (by kernel_rfl)
  go_wp2_with (at_builtin; refine Lib.wpList_append_run _ rfl _ _ _ _ rfl _ _ rfl rfl _ _ (hrun _) ?_)
  go_ret
  exact ⟨rfl, HR.out, chg_setCells (F := fun k => k = b) rfl _ _ _ HC.out⟩

theorem Del21 {w : World} {b cap : Nat} {x y : KV} (h : Row w b cap [x, y]) :
    Calls Try.prog 133 #[.slice (some ⟨b, 0, none⟩) 2 cap, .int .i64 1, .int .i64 2] w fun r w' => r = .returned (.slice (some ⟨b, 0, none⟩) 1 cap) ∧ Row w' b cap [x] ∧ Chg (fun k => k = b) w w' := by
  have hcm : cap ≤ 9223372036854775807 := by have := h.lim; unfold maxLen at this; omega
  have hl : 2 ≤ cap := h.len
  have hc0 : 1 < cap := by omega
  have hne1 : ¬ cap = 1 := by omega
  have h1c : 1 ≤ cap := by omega
  have h1i : (1 : Int) ≤ (cap : Int) := by omega
  by_cases hc1 : cap = 2
  · subst hc1
    obtain ⟨W1, hrun, hr, hchg⟩ := app_del h 1 0 [] (by simp) rfl (by omega) ⟨b, 0, none⟩ 0 (by intro j v hj; simp [ents] at hj)
    have e1 : ([x, y].take 1 ++ []) = [x] := rfl
    rw [e1] at hr
    have hcut := fun ty => hr.cut (by simp) ty 1
    simp only [List.length_singleton, Nat.one_mul, Nat.add_zero] at hcut hr hrun
    have HC := Lib.hid (hchg)
    have hcl := fun ty => (hcut ty).1
    have HR := Lib.hid ((hcut 0).2)
    clear hcut hr hchg h e1
    go_enter Try.func133, Try.ntmps133
    go_wp2_with fail
    go_still_tail 6, (by kernel_rfl)
    go_wp2_with (at_builtin; refine Lib.wpList_append_run _ rfl _ _ _ _ rfl _ _ rfl rfl _ _ (hrun _) ?_)
    go_ret
    exact ⟨rfl, HR.out, chg_setCells (F := fun k => k = b) rfl _ _ _ HC.out⟩
  · have hc2 : 2 < cap := by omega
    obtain ⟨W1, hrun, hr, hchg⟩ := app_del h 1 0 [] (by simp) rfl (by omega) ⟨b, 4, none⟩ (cap - 2) (by intro j v hj; simp [ents] at hj)
    have e1 : ([x, y].take 1 ++ []) = [x] := rfl
    rw [e1] at hr
    have hcut := fun ty => hr.cut (by simp; omega) ty (cap - 1)
    simp only [List.length_singleton, Nat.one_mul, Nat.add_zero] at hcut hr hrun
    have HC := Lib.hid (hchg)
    have hcl := fun ty => (hcut ty).1
    have HR := Lib.hid ((hcut 0).2)
    clear hcut hr hchg h e1
    go_enter Try.func133, Try.ntmps133
    go_wp2_with fail
    go_still_tail 6, (by kernel_rfl)
    go_wp2_with (at_builtin; refine Lib.wpList_append_run _ rfl _ _ _ _ rfl _ _ rfl rfl _ _ (hrun _) ?_)
    go_ret
    exact ⟨rfl, HR.out, chg_setCells (F := fun k => k = b) rfl _ _ _ HC.out⟩
end Go.Proofs.Ytonfmgdikgedfaa.Cm
