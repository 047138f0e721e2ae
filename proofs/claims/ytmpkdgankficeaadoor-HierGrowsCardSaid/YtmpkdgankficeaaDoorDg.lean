/- Chains. -/
import Derived.Test.YtmpkdgankficeaaDoorDf
set_option maxRecDepth 100000
set_option maxHeartbeats 1000000
set_option linter.unusedVariables false
set_option linter.unusedSimpArgs false
namespace Go.Proofs.YtmpkdgankficeaaDoor.Hi
open Go.RowKit Bs

/-- The class, its superclass, and so on. -/
def chainL (m : List EntM) : Nat → Int → List Int
  | 0, _ => []
  | k + 1, a => match entAt m a with
    | some e => a :: (if e.above < 0 then [] else chainL m k e.above)
    | none => []
def chainM (m : List EntM) (id : Int) : List Int × Int := match entAt m id with
  | none => ([], 3)
  | some e => (chainL m (e.depth.toNat + 1) id, 0)

theorem chainL_step {m : List EntM} {k : Nat} (hk : k < m.length) (n : Nat) : chainL m (n + 1) k = (k : Int) :: (if m[k].above < 0 then [] else chainL m n m[k].above) := by
  show (match entAt m (k : Int) with | some e => (k : Int) :: (if e.above < 0 then [] else chainL m n e.above) | none => []) = _
  rw [entAt_nat hk]
theorem chainL_len {m : List EntM} : ∀ (n : Nat) (a : Int), (chainL m n a).length ≤ n
  | 0, _ => by simp [chainL]
  | n + 1, a => by
    unfold chainL
    split
    · simp only [List.length_cons]
      split
      · simp
      · have := chainL_len (m := m) n ‹EntM›.above
        omega
    · simp

theorem chainL_fits {m : List EntM} (h : WFm m) : ∀ (n : Nat) {i : Nat}, i < m.length → ∀ x ∈ chainL m n i, Fits x
  | 0, i, hi, x, hx => by simp [chainL] at hx
  | n + 1, i, hi, x, hx => by
    rw [chainL_step hi] at hx
    have hl := h.len
    rcases List.mem_cons.1 hx with rfl | hx
    · unfold Fits; omega
    · by_cases hn : m[i].above < 0
      · rw [if_pos hn] at hx; cases hx
      · rw [if_neg hn] at hx
        have ha := h.above i hi
        rw [show m[i].above = ((m[i].above.toNat : Nat) : Int) by omega] at hx
        exact chainL_fits h n (by omega) x hx

theorem Chain {S : Nat → Prop} {bw : Nat} {w : World} {m : List EntM} (h : HW S bw w m) (hS : ∀ k, S k → k < w.heap.size) (a : Int) :
    Calls Tryd.prog 19 #[.pointer (some ⟨bw, 0, none⟩), .int .i64 a] w fun r w' => ∃ ad c, r = .returned (.tuple #[.slice ad (chainM m a).1.length c, .int .i64 (chainM m a).2]) ∧ IntSl (fun b => w.heap.size ≤ b ∧ b < w'.heap.size) w' (.slice ad (chainM m a).1.length c) (chainM m a).1 ∧ Below w.heap.size w w' := by
  unfold chainM
  cases he : entAt m a with
  | none =>
    go_enter Tryd.func19, Tryd.ntmps19
    go_wp2
    go_step3
    go_wp2_with fail
    refine (at_out h he).mono ?_
    rintro e w' ⟨rfl, rfl⟩
    go_wp2
    rw [Exit.noGoto_ret]
    go_ret2
    exact ⟨none, 0, rfl, ⟨none, 0, rfl, Nat.le_refl _, by simp, .inl rfl⟩, Below.refl _ _⟩
  | some e =>
    obtain ⟨be, ia, ic, ma, mc, ca, cc, h9, hc⟩ := at_in h he
    obtain ⟨i, rfl, hi, rfl⟩ := entAt_some he
    clear h9 he
    have HWF := Lib.hid h.wf
    obtain ⟨ga, cap, hga, hents⟩ := ents h
    obtain ⟨g, rfl⟩ : ∃ x, ga = some ⟨x, 0, none⟩ := by
      obtain ⟨g, _, _, _, _, _, _, _, e1, _⟩ := hents i hi
      exact ⟨g, e1⟩
    have HEN := Lib.hid hents
    have HGA := Lib.hid hga
    clear hents h
    show Calls _ _ _ _ fun r w' => ∃ ad c, r = .returned (.tuple #[.slice ad (chainL m (m[i].depth.toNat + 1) i).length c, .int .i64 0]) ∧ IntSl (fun b => w.heap.size ≤ b ∧ b < w'.heap.size) w' (.slice ad (chainL m (m[i].depth.toNat + 1) i).length c) (chainL m (m[i].depth.toNat + 1) i) ∧ Below w.heap.size w w'
    obtain ⟨R, hR⟩ : ∃ R, chainL m (m[i].depth.toNat + 1) i = R := ⟨_, rfl⟩
    have HRL : Hid (R.length ≤ 400) := Lib.hid (by
      rw [← hR]
      have h1 := chainL_len (m := m) (m[i].depth.toNat + 1) i
      have h2 := (HWF.out.depth i hi).2.1
      have h3 := HWF.out.len
      omega)
    have HR := Lib.hid hR
    have HFIT : Hid (∀ x ∈ R, Fits x) := Lib.hid (by rw [← hR]; exact chainL_fits HWF.out _ hi)
    rw [hR]
    go_enter Tryd.func19, Tryd.ntmps19
    go_wp2
    go_step3
    go_wp2_with fail
    refine hc.mono ?_
    rintro _ w' ⟨rfl, rfl⟩
    go_wp2_with fail
    go_step3
    have HSH := Lib.hid hS
    obtain ⟨i0, hi0, hiz0, hiz1, hiz2⟩ := info_parts info_int'
    clear hR hc hga hS
    go_wp2_with fail
    go_loopg [1, 6] m.length (fun gk u u6 wr => ∃ (k : Nat) (hk : k < m.length) (xs : List Int), Hid (k ≤ gk ∧ xs ++ chainL m (m[k].depth.toNat + 1) k = R) ∧ u = .int .i64 k ∧ Hid (wr.ownsRow w.heap.size 3 1 u6 xs.length (xs.map (Value.int .i64))) ∧ Hid (Below w.heap.size w wr))
    case atStart => exact ⟨i, hi, [], Lib.hid ⟨by omega, by simpa using HR.out⟩, rfl, Lib.hid (World.ownsRow_nil _ _ _ _), Lib.hid (Below.refl _ _)⟩
    case round =>
      obtain ⟨k, hk, xs, HK, rfl, hrow, HB⟩ := hrel
      obtain ⟨ra, rc, rfl⟩ := own_slice hrow.out
      obtain ⟨g', bk, x1, x2, x3, x4, x5, x6, y1, y2, y3⟩ := HEN.out k hk
      injection y1 with y1
      injection y1 with y1
      subst y1
      have hkl : (k : Int) < (m.length : Int) := by omega
      have HST := Lib.hid (chainL_step hk m[k].depth.toNat)
      have HXL : Hid (xs.length ≤ 400) := Lib.hid (by have := HRL.out; rw [← HK.out.2] at this; simp at this; omega)
      have HNEW : Hid (∀ j u, ([.int .i64 (k : Int)] : List Value)[j]? = some u → (wr.alloc (.cells #[.int .i64 (k : Int)] 3)).cell? ((⟨wr.heap.size, 0, none⟩ : Addr).add j) = some u) := Lib.hid (by
        intro j u hu
        cases j with
        | zero =>
          obtain rfl : Value.int IntKind.i64 (k : Int) = u := by simpa using hu
          show (wr.alloc _).cell? ⟨wr.heap.size, 0, none⟩ = _
          rw [World.cell?_alloc_new]; rfl
        | succ j => simp at hu)
      have HBA : Hid (Below w.heap.size w (wr.alloc (.cells #[.int .i64 (k : Int)] 3))) := Lib.hid (HB.out.alloc HB.out.size _)
      have hzr := HB.out.size
      have HKEY : Hid (∀ w5, Below w.heap.size w w5 → w5.cell? ⟨bw, 0, none⟩ = some (.slice (some ⟨g, 0, none⟩) m.length cap) ∧ w5.cell? ⟨g, k, none⟩ = some (.pointer (some ⟨bk, 0, none⟩)) ∧ w5.cell? ⟨bk, 6, none⟩ = some (.int .i64 m[k].above)) := Lib.hid fun w5 hb => ⟨below_cell' hb HGA.out, below_cell' hb y2, below_cell' hb y3.k6⟩
      clear y2 y3
      by_cases hn : m[k].above < 0
      · have HL : Hid (xs ++ [(k : Int)] = R) := Lib.hid (by rw [← HK.out.2, HST.out, if_pos hn])
        have hn' : decide (m[k].above < 0) = true := decide_eq_true hn
        clear hn
        generalize m[k].above = ab at HKEY hn'
        go_wp2_with (first | (at_builtin; refine wpList_append_own _ rfl _ _ 36 rfl w.heap.size 3 i0 (.int .i64 0) 1 8 Tryd.underlying36 hi0 hiz0 hiz1 hiz2 rfl (by decide) (.slice ra xs.length rc) xs.length (xs.map (Value.int .i64)) rfl (hrow.out.alloc _) ⟨wr.heap.size, 0, none⟩ 1 1 [.int .i64 (k : Int)] (by simp [Act.eval, Act.put]) rfl HNEW.out (by intro u hu; simp at hu; subst hu; rfl) (by have := HXL.out; unfold maxLen; omega) (by have := HXL.out; omega) (by simp; omega) ?_; intro v1 w5 hown1 hgrow1 hnil1; obtain ⟨g1, cap1, rfl⟩ := own_form hown1; (have HB5 : Hid (Below w.heap.size w w5) := Lib.hid (HBA.out.grown hgrow1 (by simp; omega) (fun q hq => (own_live hrow.out hq).1))); obtain ⟨e1, e2, e3⟩ := HKEY.out w5 HB5.out))
        go_ret2
        have F : Hid (R.length = xs.length + 1) := Lib.hid (by rw [← HL.out]; simp)
        refine ⟨some ⟨g1, 0, none⟩, cap1, by rw [F.out]; rfl, ?_, HB5.out⟩
        have ho : w5.ownsRow w.heap.size 3 1 (.slice (some ⟨g1, 0, none⟩) R.length cap1) R.length (R.map (Value.int .i64)) := by
          rw [← HL.out]; simpa using hown1
        exact IntSl.of_own ho HFIT.out (by have := HRL.out; omega) _ fun b hb => own_live ho hb
      · obtain ⟨p, hp⟩ : ∃ p : Nat, m[k].above = p := ⟨m[k].above.toNat, by omega⟩
        have hpk : p < k := by have := (HWF.out.above k hk).2.1; omega
        have hn' : decide ((p : Int) < 0) = false := decide_eq_false (by omega)
        have HL : Hid ((xs ++ [(k : Int)]) ++ chainL m (m[p].depth.toNat + 1) p = R) := Lib.hid (by
          have h2 := (HWF.out.depth k hk).2.2.1 p (by omega) hp
          have h3 := (HWF.out.depth p (by omega)).1
          rw [← HK.out.2, HST.out, if_neg hn, hp, List.append_assoc]
          rw [show m[k].depth.toNat = m[p].depth.toNat + 1 by omega]
          rfl)
        rw [hp] at HKEY
        clear hn
        go_wp2_with (first | (at_builtin; refine wpList_append_own _ rfl _ _ 36 rfl w.heap.size 3 i0 (.int .i64 0) 1 8 Tryd.underlying36 hi0 hiz0 hiz1 hiz2 rfl (by decide) (.slice ra xs.length rc) xs.length (xs.map (Value.int .i64)) rfl (hrow.out.alloc _) ⟨wr.heap.size, 0, none⟩ 1 1 [.int .i64 (k : Int)] (by simp [Act.eval, Act.put]) rfl HNEW.out (by intro u hu; simp at hu; subst hu; rfl) (by have := HXL.out; unfold maxLen; omega) (by have := HXL.out; omega) (by simp; omega) ?_; intro v1 w5 hown1 hgrow1 hnil1; obtain ⟨g1, cap1, rfl⟩ := own_form hown1; (have HB5 : Hid (Below w.heap.size w w5) := Lib.hid (HBA.out.grown hgrow1 (by simp; omega) (fun q hq => (own_live hrow.out hq).1))); obtain ⟨e1, e2, e3⟩ := HKEY.out w5 HB5.out))
        have HR5 : Hid (w5.ownsRow w.heap.size 3 1 (.slice (some ⟨g1, 0, none⟩) (xs.length + 1) cap1) (xs ++ [(k : Int)]).length ((xs ++ [(k : Int)]).map (Value.int .i64))) := Lib.hid (by simpa using hown1)
        go_roundg p
        case measure => have := HK.out.1; omega
        case rel => exact ⟨p, by omega, xs ++ [(k : Int)], Lib.hid ⟨Nat.le_refl _, HL.out⟩, rfl, HR5, HB5⟩
end Go.Proofs.YtmpkdgankficeaaDoor.Hi
