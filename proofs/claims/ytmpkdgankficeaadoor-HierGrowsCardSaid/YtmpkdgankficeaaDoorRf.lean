/- Small functions of the statements' own: numbers in lists. -/
import Derived.Test.YtmpkdgankficeaaDoorYa
set_option maxRecDepth 100000
set_option maxHeartbeats 1000000
set_option linter.unusedVariables false
set_option linter.unusedSimpArgs false
namespace Go.Proofs.YtmpkdgankficeaaDoor.Hi
open Go.RowKit Bs

theorem IntSl.room {S : Nat → Prop} {w : World} {a : Option Addr} {c : Nat} {xs : List Int} (h : IntSl S w (.slice a xs.length c) xs) : xs.length ≤ c ∧ xs.length * 8 ≤ 140737488355328 := by
  obtain ⟨a', c', hf, h2, h3, _⟩ := h.cells
  injection hf with _ _ f3
  subst f3
  exact ⟨h2, h3⟩

theorem RHas {S : Nat → Prop} {w : World} {a : Option Addr} {c : Nat} {xs : List Int} (n : Int) (h : IntSl S w (.slice a xs.length c) xs) :
    Calls Tryd.prog 17 #[.slice a xs.length c, .int .i64 n] w fun e w' => e = .returned (.bool (xs.contains n)) ∧ w = w' := by
  have HX := Lib.hid h
  have hb := h.room.2
  clear h
  obtain ⟨R, hR⟩ : ∃ R, xs.contains n = R := ⟨_, rfl⟩
  have HR := Lib.hid hR
  rw [hR]
  clear hR
  go_enter Tryd.func17, Tryd.ntmps17
  go_wp2_with fail
  go_loopg [5] xs.length (fun gk u wr => ∃ k : Nat, Hid (k + gk = xs.length ∧ ∀ j x, j < k → xs[j]? = some x → x ≠ n) ∧ u = .int .i64 k ∧ Hid (w = wr))
  case atStart => exact ⟨0, Lib.hid ⟨Nat.zero_add _, fun j x hj => by omega⟩, rfl, Lib.hid rfl⟩
  case round =>
    obtain ⟨k, hk, rfl, hw⟩ := hrel
    have hw' := hw.out
    subst hw'
    by_cases hlt : k < xs.length
    · have hlt' : (k : Int) < (xs.length : Int) := by omega
      obtain ⟨b, o, rfl, hel⟩ := HX.out.elem (by omega)
      have g := hel k _ (List.getElem?_eq_getElem hlt)
      have HIT : Hid (xs[k] = n → R = true) := Lib.hid fun h => by
        rw [← HR.out]
        have : n ∈ xs := by rw [← h]; exact List.getElem_mem hlt
        simpa using this
      have NXT : Hid (xs[k] ≠ n → ∀ j x, j < k + 1 → xs[j]? = some x → x ≠ n) := Lib.hid fun h j x hj hx => by
        by_cases e : j = k
        · subst e
          rw [List.getElem?_eq_getElem hlt] at hx
          injection hx with hx
          rw [← hx]; exact h
        · exact hk.out.2 j x (by omega) hx
      clear hel
      generalize xs[k] = y at g HIT NXT
      by_cases hy : y = n
      · have hy' : (y == n) = true := by simpa using hy
        have G := Lib.hid (HIT.out hy)
        clear hy
        go_wp2
        go_ret
        exact ⟨by rw [G.out]; rfl, rfl⟩
      · have hy' : (y == n) = false := by simpa using hy
        have G := Lib.hid (NXT.out hy)
        clear hy
        go_wp2
        go_roundg (xs.length - (k + 1))
        case measure => have := hk.out.1; omega
        case rel => exact ⟨k + 1, Lib.hid ⟨by omega, G.out⟩, by go_num, Lib.hid rfl⟩
    · have G : Hid (R = false) := Lib.hid (by
        rw [← HR.out, Bool.eq_false_iff]
        intro h
        have hm : n ∈ xs := by simpa using h
        obtain ⟨j, hj, e⟩ := List.getElem_of_mem hm
        exact hk.out.2 j n (by omega) (by rw [List.getElem?_eq_getElem hj, e]) rfl)
      go_wp2
      go_ret
      exact ⟨by rw [G.out]; rfl, rfl⟩

theorem RSame {S S' : Nat → Prop} {w : World} {a a' : Option Addr} {c c' : Nat} {xs ys : List Int} (h : IntSl S w (.slice a xs.length c) xs) (h' : IntSl S' w (.slice a' ys.length c') ys) :
    Calls Tryd.prog 15 #[.slice a xs.length c, .slice a' ys.length c'] w fun e w' => e = .returned (.bool (decide (xs = ys))) ∧ Below w.heap.size w w' := by
  have HX := Lib.hid h
  have HY := Lib.hid h'
  have hb := h.room.2
  clear h h'
  obtain ⟨R, hR⟩ : ∃ R, decide (xs = ys) = R := ⟨_, rfl⟩
  have HR := Lib.hid hR
  rw [hR]
  clear hR
  by_cases hl : xs.length = ys.length
  · have hl' : (((xs.length : Nat) : Int) != ((ys.length : Nat) : Int)) = false := by simp [hl]
    have HL := Lib.hid hl
    clear hl
    go_enter Tryd.func15, Tryd.ntmps15
    go_wp2_with fail
    clear hl'
    go_loopg [5] xs.length (fun gk u wr => ∃ k : Nat, Hid (k + gk = xs.length ∧ ∀ j, j < k → xs[j]? = ys[j]?) ∧ u = .int .i64 k ∧ Hid (Below w.heap.size w wr ∧ wr.heap = w.heap))
    case atStart => exact ⟨0, Lib.hid ⟨Nat.zero_add _, fun j hj => by omega⟩, rfl, Lib.hid ⟨Below.refl _ _, rfl⟩⟩
    case round =>
      obtain ⟨k, hk, rfl, hw⟩ := hrel
      have cw : ∀ p : Addr, wr.cell? p = w.cell? p := fun p => World.cell?_of_block (by rw [hw.out.2])
      by_cases hlt : k < xs.length
      · have hlt' : (k : Int) < (xs.length : Int) := by omega
        have hlt2 : k < ys.length := by have := HL.out; omega
        have hlt3 : (k : Int) < (ys.length : Int) := by omega
        obtain ⟨b, o, rfl, hel⟩ := HX.out.elem (by omega)
        obtain ⟨b', o', rfl, hel'⟩ := HY.out.elem (by omega)
        have g := (cw _).trans (hel k _ (List.getElem?_eq_getElem hlt))
        have g' := (cw _).trans (hel' k _ (List.getElem?_eq_getElem hlt2))
        have HIT : Hid (xs[k] ≠ ys[k] → R = false) := Lib.hid fun h => by
          rw [← HR.out]
          refine decide_eq_false fun e => h ?_
          subst e; rfl
        have NXT : Hid (xs[k] = ys[k] → ∀ j, j < k + 1 → xs[j]? = ys[j]?) := Lib.hid fun h j hj => by
          by_cases e : j = k
          · subst e
            rw [List.getElem?_eq_getElem hlt, List.getElem?_eq_getElem hlt2, h]
          · exact hk.out.2 j (by omega)
        clear hel hel' cw
        generalize xs[k] = x at g HIT NXT
        generalize ys[k] = y at g' HIT NXT
        by_cases hy : x = y
        · have hy' : (x != y) = false := by simpa using hy
          have G := Lib.hid (NXT.out hy)
          clear hy
          go_wp2_with fail
          go_quiet (fail)
          go_wp2
          go_roundg (xs.length - (k + 1))
          case measure => have := hk.out.1; omega
          case rel => exact ⟨k + 1, Lib.hid ⟨by omega, G.out⟩, by go_num, Lib.hid ⟨below_drewN hw.out.1 _, hw.out.2⟩⟩
        · have hy' : (x != y) = true := by simpa using hy
          have G := Lib.hid (HIT.out hy)
          clear hy
          go_wp2_with fail
          go_quiet (fail)
          go_wp2
          go_ret
          exact ⟨by rw [G.out]; rfl, below_drewN hw.out.1 _⟩
      · have G : Hid (R = true) := Lib.hid (by
          rw [← HR.out]
          refine decide_eq_true (List.ext_getElem? fun j => ?_)
          have := HL.out
          by_cases hj : j < k
          · exact hk.out.2 j hj
          · rw [List.getElem?_eq_none (by omega), List.getElem?_eq_none (by omega)])
        go_wp2
        go_ret
        exact ⟨by rw [G.out]; rfl, hw.out.1⟩
  · have hl' : (((xs.length : Nat) : Int) != ((ys.length : Nat) : Int)) = true := by simp; omega
    have G : Hid (R = false) := Lib.hid (by
      rw [← HR.out]
      exact decide_eq_false fun e => hl (by rw [e]))
    clear hl
    go_enter Tryd.func15, Tryd.ntmps15
    go_wp2
    go_ret
    exact ⟨by rw [G.out]; rfl, Below.refl _ _⟩

theorem IntSl.take {S : Nat → Prop} {w : World} {a : Option Addr} {c : Nat} {xs ys r : List Int} (h : IntSl S w (.slice a xs.length c) xs) (he : xs = ys ++ r) : IntSl S w (.slice a ys.length c) ys := by
  subst he
  obtain ⟨a', c', hf, h2, h3, h4⟩ := h
  injection hf with f1 f2 f3
  subst f1; subst f3
  simp only [List.length_append] at h2 h3
  refine ⟨a, c, rfl, by omega, by omega, ?_⟩
  rcases h4 with h4 | ⟨b, o, e, hS, h4⟩
  · exact .inl (List.append_eq_nil_iff.1 h4).1
  · refine .inr ⟨b, o, e, hS, fun i hi => ?_⟩
    obtain ⟨cs, g1, g2, g3⟩ := h4 i (by simp; omega)
    rw [List.getElem_append_left hi] at g3
    exact ⟨cs, g1, g2, g3⟩
/-- A slice of texts stays as it is. -/
theorem StrSl.next {w w' : World} {v : Value} {xs : List ByteArray} (h : StrSl (fun b => b < w.heap.size) w v xs) (hb : Below w.heap.size w w') : StrSl (fun b => b < w'.heap.size) w' v xs :=
  (StrSl.alike h (Alike.of_below hb fun _ h => h)).mono fun _ hk => Nat.lt_of_lt_of_le hk hb.size
theorem StrSl.elem {S : Nat → Prop} {w : World} {a : Option Addr} {c : Nat} {xs : List ByteArray} (h : StrSl S w (.slice a xs.length c) xs) {k : Nat} (hk : k < xs.length) : xs[k].size ≤ maxLen ∧ ∃ b o, a = some ⟨b, o, none⟩ ∧ w.cell? ⟨b, o + k, none⟩ = some (.string xs[k]) := by
  obtain ⟨a', c', hf, h2, h3, h4⟩ := h
  injection hf with f1 f2 f3
  subst f1; subst f3
  rcases h4 with h4 | ⟨b, o, rfl, hS, h4⟩
  · rw [h4] at hk; simp at hk
  · obtain ⟨cs, g1, g2, rfl, g4⟩ := h4 k hk
    have := g2 0 (by simp)
    exact ⟨g4, b, o, rfl, by simpa using this⟩
theorem Built.drew {B bw : Nat} {w wr : World} {m : List EntM} (h : Built B bw w wr m) : Built B bw w wr.drew m := h.next (Below.drew (Below.refl _ _))
end Go.Proofs.YtmpkdgankficeaaDoor.Hi
