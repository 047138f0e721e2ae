/- Caches: the document's cache: All. -/
import Derived.Test.YtonfmgdikgedfaaCe
set_option maxRecDepth 100000
set_option maxHeartbeats 1000000
set_option linter.unusedVariables false
set_option linter.unusedSimpArgs false
namespace Go.Proofs.Ytonfmgdikgedfaa.Cm
open Go.RowKit Bs Go.Lib

/-- The keys of the sets before s, and of set s among the first i entries. -/
def allUp (m : Nat) (L : List KV) (s i : Nat) : List Int := ((List.range s).map fun j => (L.filter fun e => setNo m e.1 == j).map (·.1)).flatten ++ ((L.take i).filter fun e => setNo m e.1 == s).map (·.1)
theorem allUp_next (m : Nat) (L : List KV) (s : Nat) : allUp m L (s + 1) 0 = allUp m L s L.length := by
  unfold allUp
  rw [List.range_succ, List.map_append, List.flatten_append, List.take_length]
  simp
theorem allUp_succ (m : Nat) (L : List KV) (s : Nat) {i : Nat} (h : i < L.length) : allUp m L s (i + 1) = if setNo m L[i].1 = s then allUp m L s i ++ [L[i].1] else allUp m L s i := by
  unfold allUp
  rw [List.take_succ_eq_append_getElem h, List.filter_append]
  by_cases hs : setNo m L[i].1 = s
  · rw [if_pos hs]
    simp [hs]
  · rw [if_neg hs]
    simp [hs]
theorem allUp_len (m : Nat) (L : List KV) (hl : L.length ≤ 65) (s i : Nat) : (allUp m L s i).length ≤ 65 * s + 65 := by
  induction s with
  | zero =>
    unfold allUp
    have := List.length_filter_le (fun e : KV => setNo m e.1 == 0) (L.take i)
    have h2 : (L.take i).length ≤ 65 := by rw [List.length_take]; omega
    simp at *
    omega
  | succ s ih =>
    unfold allUp at *
    rw [List.range_succ, List.map_append, List.flatten_append, List.length_append, List.length_append]
    rw [List.length_append] at ih
    have h1 := List.length_filter_le (fun e : KV => setNo m e.1 == s) L
    have h2 := List.length_filter_le (fun e : KV => setNo m e.1 == s + 1) (L.take i)
    have h3 : (L.take i).length ≤ 65 := by rw [List.length_take]; omega
    have h4 : ((List.range s).map fun j => (L.filter fun e => setNo m e.1 == j).map (·.1)).flatten.length ≤ 65 * s := by
      clear ih h1 h2 h3
      induction s with
      | zero => simp
      | succ s ih =>
        rw [List.range_succ, List.map_append, List.flatten_append, List.length_append]
        have h1 := List.length_filter_le (fun e : KV => setNo m e.1 == s) L
        simp at *
        omega
    simp at *
    omega
theorem allUp_all (x : RM) : allUp (nSets x.n) x.L (nSets x.n) 0 = x.all := by
  unfold allUp RM.all
  simp

theorem RAll {T : Nat → Prop} {w : World} {bx : Nat} {x : RM} (h : RefAt T w bx x) :
    Calls Try.prog 50 #[.pointer (some ⟨bx, 0, none⟩)] w fun e w' => ∃ v, e = .returned v ∧ Num w' v x.all ∧ (∀ q, v.ownBlock = some q → w.heap.size ≤ q) ∧ Below w.heap.size w w' := by
  obtain ⟨kv, vv, g1, _, hk, _, _, _⟩ := h.vs
  obtain ⟨ka, kc, rfl⟩ := hk.slice
  rw [List.length_map] at g1 hk
  have hl := h.len
  have HG := Lib.hid (And.intro h.cap g1)
  have HK := Lib.hid hk
  have HSM := Lib.hid h.small
  have HA := Lib.hid (allUp_all x)
  have hm : nSets x.n ≤ 32 := by have := h.small; unfold nSets; omega
  have HP : Hid (∀ s, s < nSets x.n → 0 < x.n) := Lib.hid fun s hs => by unfold nSets at hs; omega
  have HS : Hid (∀ wr, wr.cell? ⟨bx, 0, none⟩ = some (.int .i64 x.n) → Calls Try.prog 75 #[.pointer (some ⟨bx, 0, none⟩)] wr fun e w' => e = .returned (.int .i64 (nSets x.n)) ∧ wr = w') := Lib.hid fun wr h => RSets h HSM.out
  have HN : Hid (∀ wr, wr.cell? ⟨bx, 0, none⟩ = some (.int .i64 x.n) → 0 < x.n → ∀ key, Calls Try.prog 73 #[.pointer (some ⟨bx, 0, none⟩), .int .i64 key] wr fun e w' => e = .returned (.int .i64 (setNo (nSets x.n) key : Nat)) ∧ wr = w') := Lib.hid fun wr h h0 key => RSet h h0 HSM.out key
  clear hk g1 h
  generalize nSets x.n = m at *
  go_enter Try.func50, Try.ntmps50
  go_wp2_with fail
  go_loopg [3, 4, 5] m (fun gk ul us _ wr => ∃ s : Nat, Hid (s + gk = m) ∧ us = .int .i64 s ∧ Hid (Two w wr ul (.slice none 0 0) (allUp m x.L s 0) []))
  case atStart => exact ⟨0, Lib.hid (Nat.zero_add _), by go_num, Lib.hid ⟨by simpa [allUp] using Num.nil w, Num.nil w, (by intro q hq; cases hq), (by intro q hq; cases hq), (by intro q hq; cases hq), Below.refl _ _⟩⟩
  case round =>
    obtain ⟨s, hs, rfl, HT⟩ := hrel
    have k0 := below_cell' HT.out.bel HG.out.1
    have HSS := Lib.hid (HS.out wr k0)
    have hsm : s ≤ m := by have := hs.out; omega
    clear k0
    by_cases hlt : s < m
    · have hlt' : (s : Int) < (m : Int) := by omega
      have hs0 : (0 : Int) ≤ (s : Int) := by omega
      have hx0 := HP.out s hlt
      go_wp2_with fail
      refine HSS.out.mono ?_
      rintro e w1 ⟨rfl, rfl⟩
      clear HSS
      go_wp2_with fail
      go_loopg [3, 5] x.L.length (fun gk ul ui wr => ∃ i : Nat, Hid (i + gk = x.L.length) ∧ ui = .int .i64 i ∧ Hid (Two w wr ul (.slice none 0 0) (allUp m x.L s i) []))
      case atStart => exact ⟨0, Lib.hid (Nat.zero_add _), by go_num, HT⟩
      case round =>
        clear HT
        obtain ⟨i, hi, rfl, HT⟩ := hrel
        have k1 := below_cell' HT.out.bel HG.out.2
        by_cases hil : i < x.L.length
        · have hil' : (i : Int) < (x.L.length : Int) := by omega
          have hi0 : (0 : Int) ≤ (i : Int) := by omega
          obtain ⟨g, rfl, m0⟩ := HK.out.elem (j := i) (by simpa using hil)
          rw [List.getElem_map] at m0
          have m1 := below_cell' HT.out.bel m0
          have HC := Lib.hid (HN.out wr (below_cell' HT.out.bel HG.out.1) hx0 x.L[i].1)
          have HU := Lib.hid (allUp_succ m x.L s hil)
          have hul := allUp_len m x.L hl s i
          clear m0
          by_cases hno : setNo m x.L[i].1 = s
          · obtain ⟨K', w2, hrun, ht2⟩ := HT.out.left x.L[i].1 (by omega) 31
            rw [if_pos hno] at HU
            rw [← HU.out] at ht2
            have HT2 := Lib.hid ht2
            rw [hno] at HC
            clear ht2 hul HU hno HT
            generalize x.L[i] = y at *
            go_wp2_with fail
            refine HC.out.mono ?_
            rintro e w3 ⟨rfl, rfl⟩
            go_wp2_with (at_builtin; refine Lib.wpList_append_run _ rfl _ _ _ _ rfl _ _ rfl rfl _ _ hrun ?_)
            go_roundg (x.L.length - (i + 1))
            case measure => have := hi.out; omega
            case rel => exact ⟨i + 1, Lib.hid (by have := hi.out; omega), by go_num, HT2⟩
          · rw [if_neg hno] at HU
            have HT2 := HT
            rw [← HU.out] at HT2
            have hno' : (((setNo m x.L[i].1 : Nat) : Int) == (s : Int)) = false := by simp; omega
            clear hul HU hno HT
            generalize setNo m x.L[i].1 = q at *
            generalize x.L[i] = y at *
            go_wp2_with fail
            refine HC.out.mono ?_
            rintro e w3 ⟨rfl, rfl⟩
            go_wp2
            go_roundg (x.L.length - (i + 1))
            case measure => have := hi.out; omega
            case rel => exact ⟨i + 1, Lib.hid (by have := hi.out; omega), by go_num, HT2⟩
        · have HT2 : Hid (Two w wr _ (.slice none 0 0) (allUp m x.L (s + 1) 0) []) := Lib.hid (by
            rw [allUp_next]
            have := HT.out
            rwa [show i = x.L.length by have := hi.out; omega] at this)
          clear hi HT
          go_wp2
          go_roundg (m - (s + 1))
          case measure => have := hs.out; omega
          case rel => exact ⟨s + 1, Lib.hid (by have := hs.out; omega), by go_num, HT2⟩
    · have hE : s = m := by omega
      have HT2 : Hid (Two w wr _ (.slice none 0 0) x.all []) := Lib.hid (by
        rw [← HA.out]
        have := HT.out
        rwa [hE] at this)
      subst hE
      clear hs HT
      go_wp2_with fail
      refine HSS.out.mono ?_
      rintro e w1 ⟨rfl, rfl⟩
      go_wp2
      go_ret
      exact ⟨_, rfl, HT2.out.k, HT2.out.kb, HT2.out.bel⟩
end Go.Proofs.Ytonfmgdikgedfaa.Cm
