/- The walk of TallyTwo. -/
import Derived.Test.YtonfmgdikgedfaaTb
set_option maxRecDepth 100000
set_option linter.unusedVariables false
set_option linter.unusedSimpArgs false
namespace Go.Proofs.Ytonfmgdikgedfaa.Ta
open Go.ChangeShapes Go.WideShapes Go.ChangeAt Go.RowKit

/-- A store below nothing old. -/
theorem below_set {w w' : World} {B c k : Nat} (h : Below B w w') (hc : B ≤ c) (v : Value) : Below B w (w'.setCell ⟨c, k, none⟩ v) := h.setCell (p := ⟨c, k, none⟩) hc v

theorem awake_ok (w : World) :
    Calls Try.prog 11 #[] w fun e w' => e = .returned (.bool true) ∧ Below w.heap.size w w' := by
  go_enter Try.func11, Try.ntmps11
  go_wp2_with fail
  refine (New_ok 2 _ (by omega) (by omega)).mono ?_
  rintro e w1 ⟨b, c, rfl, ht, hb, hbb, hcc, _, _⟩
  go_wp2_with fail
  refine (Add_ok b c _ 1 5 _ ht (by omega) (by simp)).mono ?_
  have e5 : wrap64 (nth (List.replicate 2 0) 1 + 5) = 5 := by simp [nth, wrap64]
  rw [e5]
  rintro e w2 ⟨rfl, rfl⟩
  have ht2 := ht.set 1 (by omega) (by simp) 5
  have hb2 := below_set (k := 1) hb hcc (.int .i64 5)
  go_wp2_with fail
  refine (len_ok b c _ _ ht2).mono ?_
  rintro e w2 ⟨rfl, rfl⟩
  go_wp2
  go_ret
  exact ⟨rfl, hb2⟩
/-- What is known of a number that fits an int. -/
def Fits (x : Int) : Prop := -9223372036854775808 ≤ x ∧ x ≤ 9223372036854775807

theorem wrap_fits {x : Int} (h : Fits x) : wrap64 x = x := by
  obtain ⟨h1, h2⟩ := h
  exact IntWalk.wrap64_in x ⟨h1, h2⟩

theorem nth_zero (n : Nat) (k : Int) : nth (List.replicate n 0) k = 0 := by
  simp only [nth, List.getD, List.getElem?_replicate]
  split <;> rfl

theorem nth_set_same (xs : List Int) (k : Int) (v : Int) (h0 : 0 ≤ k) (h1 : k < xs.length) : nth (xs.set k.toNat v) k = v := by
  have : k.toNat < xs.length := by omega
  simp [nth, List.getD, this]

theorem two_bad (n k y m : Int) (hn : n < 1 ∨ 64 < n) (w : World) :
    Calls Try.prog 3 #[.int .i64 n, .int .i64 k, .int .i64 y, .int .i64 m] w fun e w' => e = .returned (.bool true) ∧ Below w.heap.size w w' := by
  go_enter Try.func3, Try.ntmps3
  go_wp2_with fail
  refine (awake_ok _).mono ?_
  rintro e w1 ⟨rfl, hb1⟩
  go_wp2_with fail
  refine (New_bad n _ hn).mono ?_
  rintro e w2 ⟨rfl, rfl⟩
  go_wp2_with fail
  refine (New_bad n _ hn).mono ?_
  rintro e w2 ⟨rfl, rfl⟩
  go_wp2
  go_ret
  exact ⟨rfl, hb1⟩

theorem two_out (n : Nat) (k y m : Int) (hn : 1 ≤ n) (hn' : n ≤ 64) (hk : k < 0 ∨ (n : Int) ≤ k) (w : World) :
    Calls Try.prog 3 #[.int .i64 n, .int .i64 k, .int .i64 y, .int .i64 m] w fun e w' => e = .returned (.bool true) ∧ Below w.heap.size w w' := by
  have key : ∀ u : Bool, (u = true → k < 0) → (u = false → ¬ k < 0 ∧ (n : Int) ≤ k) → Calls Try.prog 3 #[.int .i64 n, .int .i64 k, .int .i64 y, .int .i64 m] w fun e w' => e = .returned (.bool true) ∧ Below w.heap.size w w' := by
    intro u hu hu'
    cases u
    all_goals
      first | obtain ⟨hk1, hk2⟩ := hu' rfl | have hk1 := hu rfl
      clear hu hu' hk
      go_enter Try.func3, Try.ntmps3
      go_wp2_with fail
      refine (awake_ok _).mono ?_
      rintro e w1 ⟨rfl, hb1⟩
      go_wp2_with fail
      refine (New_ok n _ hn hn').mono ?_
      rintro e w2 ⟨b, c, rfl, ht, hb2, hbb, hcc, hb', hc'⟩
      go_wp2_with fail
      refine (New_ok n _ hn hn').mono ?_
      rintro e w3 ⟨b1, c1, rfl, ht1, hb3, hbb1, hcc1, _, _⟩
      have ht3 := ht.same (hb3.block _ hb') (hb3.block _ hc')
      go_wp2_with fail
      refine (Add_out b c _ k y _ ht3 (by simp; omega)).mono ?_
      rintro e w4 ⟨rfl, rfl⟩
      go_wp2
      go_ret
      exact ⟨rfl, (hb1.trans (hb2.mono hb1.size)).trans (hb3.mono (Nat.le_trans hb1.size hb2.size))⟩
  by_cases h : k < 0
  · exact key true (fun _ => h) (fun h => by cases h)
  · exact key false (fun h => by cases h) (fun _ => ⟨h, by omega⟩)

/-- Add, the tally told anew. -/
theorem Add_abs (b c : Nat) (xs : List Int) (k y v : Int) (w : World) (h : Tly w b c xs) (h0 : 0 ≤ k) (h1 : k < xs.length) (hv : wrap64 (nth xs k + y) = v) :
    Calls Try.prog 13 #[.pointer (some ⟨b, 0, none⟩), .int .i64 k, .int .i64 y] w fun e w' => e = .returned (.tuple #[.int .i64 v, .int .i64 0]) ∧
      ∃ xs', Tly w' b c xs' ∧ xs'.length = xs.length ∧ nth xs' k = v ∧ (∀ j, j ≠ c → w'.heap[j]? = w.heap[j]?) ∧ (∀ B, B ≤ c → Below B w w') := by
  subst hv
  refine (Add_ok b c xs k y w h h0 h1).mono ?_
  rintro e w' ⟨rfl, rfl⟩
  exact ⟨rfl, _, h.set k h0 h1 _, by simp, nth_set_same _ _ _ h0 h1, fun j hj => Below.heap_setCell _ _ _ _ hj, fun B hB => below_set (Below.refl _ _) hB _⟩

/-- Most, the tally told anew. -/
theorem Most_abs (b c : Nat) (xs : List Int) (k n v : Int) (w : World) (h : Tly w b c xs) (h0 : 0 ≤ k) (h1 : k < xs.length) (hv : n ≤ nth xs k ∧ v = nth xs k ∨ nth xs k < n ∧ v = n) :
    Calls Try.prog 15 #[.pointer (some ⟨b, 0, none⟩), .int .i64 k, .int .i64 n] w fun e w' => e = .returned (.tuple #[.int .i64 v, .int .i64 0]) ∧
      ∃ xs', Tly w' b c xs' ∧ xs'.length = xs.length ∧ nth xs' k = v ∧ (∀ j, j ≠ c → w'.heap[j]? = w.heap[j]?) ∧ (∀ B, B ≤ c → Below B w w') := by
  refine (Most_ok b c xs k n w h h0 h1).mono ?_
  rintro e w' (⟨h2, rfl, rfl⟩ | ⟨h2, rfl, rfl⟩)
  · obtain ⟨_, rfl⟩ | ⟨h3, _⟩ := hv
    · exact ⟨rfl, _, h, rfl, rfl, fun j hj => rfl, fun B hB => Below.refl _ _⟩
    · omega
  · obtain ⟨h3, _⟩ | ⟨h3, rfl⟩ := hv
    · omega
    · exact ⟨rfl, _, h.set k h0 h1 _, by simp, nth_set_same _ _ _ h0 h1, fun j hj => Below.heap_setCell _ _ _ _ hj, fun B hB => below_set (Below.refl _ _) hB _⟩

set_option maxHeartbeats 4000000 in
theorem two_in (n : Nat) (k y m v : Int) (hn : 1 ≤ n) (hn' : n ≤ 64) (hk : 0 ≤ k) (hk' : k < n) (hy : Fits y) (hm : Fits m) (q1 q2 : Bool)
    (hv : m ≤ y ∧ v = y ∨ y < m ∧ v = m) (t1 : (v != y) = q1) (t2 : (v != m) = q2) (h12 : (q1 && q2) = false) (w : World) :
    Calls Try.prog 3 #[.int .i64 n, .int .i64 k, .int .i64 y, .int .i64 m] w fun e w' => e = .returned (.bool true) ∧ Below w.heap.size w w' := by
  have c1 : ¬ k < 0 := by omega
  have c2 : ¬ (n : Int) ≤ k := by omega
  have c3 : ¬ v < y := by omega
  have c4 : ¬ v < m := by omega
  have hvf : Fits v := by rcases hv with ⟨_, rfl⟩ | ⟨_, rfl⟩ <;> assumption
  have HV := Lib.hid hv
  clear hv
  have key : ∀ u : Bool, (u = true → v ≤ -1000000 ∨ ¬ v ≤ -1000000 ∧ 1000000 ≤ v) → (u = false → ¬ v ≤ -1000000 ∧ ¬ 1000000 ≤ v) →
      Calls Try.prog 3 #[.int .i64 n, .int .i64 k, .int .i64 y, .int .i64 m] w fun e w' => e = .returned (.bool true) ∧ Below w.heap.size w w' := by
    intro u hu hu'
    have HU := Lib.hid hu
    have HU' := Lib.hid hu'
    clear hu hu'
    go_enter Try.func3, Try.ntmps3
    go_wp2_with fail
    refine (awake_ok _).mono ?_
    rintro e w1 ⟨rfl, hb1⟩
    go_wp2_with fail
    refine (New_ok n _ hn hn').mono ?_
    rintro e w2 ⟨b, c, rfl, ht, hb2, hbb, hcc, hb', hc'⟩
    go_wp2_with fail
    refine (New_ok n _ hn hn').mono ?_
    rintro e w3 ⟨b1, c1, rfl, ht1, hb3, hbb1, hcc1, hb1', hc1'⟩
    have ht3 := ht.same (hb3.block _ hb') (hb3.block _ hc')
    have B3 := (hb1.trans (hb2.mono hb1.size)).trans (hb3.mono (Nat.le_trans hb1.size hb2.size))
    have hBc : w.heap.size ≤ c := Nat.le_trans hb1.size hcc
    have e1 : wrap64 (nth (List.replicate n 0) k + y) = y := by rw [nth_zero, Int.zero_add]; exact wrap_fits hy
    go_wp2_with fail
    refine (Add_abs b c _ k y y _ ht3 hk (by simpa using hk') e1).mono ?_
    rintro e w4 ⟨rfl, xs4, ht4, hl4, hn4, hj4, hB4⟩
    have ht41 := ht1.same (hj4 _ (by omega)) (hj4 _ (by omega))
    have B4 := B3.trans (hB4 _ hBc)
    have HN4 := Lib.hid hn4
    have HL4 := Lib.hid hl4
    clear hn4 hl4 e1 hj4
    go_wp2_with fail
    have e2 := nth_zero n k
    refine (Read_ok b1 c1 _ k _ ht41 hk (by simpa using hk')).mono ?_
    rw [e2]
    rintro e w5 ⟨rfl, rfl⟩
    clear e2
    go_wp2_with fail
    refine (Most_abs b c _ k m v _ ht4 hk (by rw [HL4.out]; simpa using hk') (by rw [HN4.out]; exact HV.out)).mono ?_
    rintro e w5 ⟨rfl, xs5, ht5, hl5, hn5, hj5, hB5⟩
    have B5 := B4.trans (hB5 _ hBc)
    have HN5 := Lib.hid hn5
    have HL5 := Lib.hid hl5
    clear hn5 hl5 hj5
    have hk5 : k < xs5.length := by rw [HL5.out, HL4.out]; simpa using hk'
    go_wp2_with fail
    refine (Read_ok b c _ k _ ht5 hk hk5).mono ?_
    rw [HN5.out]
    rintro e w6 ⟨rfl, rfl⟩
    cases u
    case true =>
      have hu := HU.out rfl
      rcases hu with hu | ⟨hu0, hu⟩
      all_goals
        cases q1
        · go_wp2
          go_ret
          exact ⟨rfl, B5⟩
        · cases q2
          · go_wp2
            go_ret
            exact ⟨rfl, B5⟩
          · cases h12
    case false =>
      obtain ⟨u1, u2⟩ := HU'.out rfl
      have e7 : wrap64 (nth xs5 k + -v) = 0 := by rw [HN5.out]; simp [wrap64, Int.add_right_neg]
      have HE := Lib.hid e7
      clear e7
      cases q1
      case true =>
        cases q2
        · go_wp2_with fail
          refine (Add_abs b c _ k (-v) 0 _ ht5 hk hk5 HE.out).mono ?_
          rintro e w7 ⟨rfl, xs7, ht7, hl7, hn7, hj7, hB7⟩
          have B7 := B5.trans (hB7 _ hBc)
          have HN7 := Lib.hid hn7
          have hk7 : k < xs7.length := by rw [hl7]; exact hk5
          clear hn7 hl7 hj7
          go_wp2_with fail
          refine (Read_ok b c _ k _ ht7 hk hk7).mono ?_
          rw [HN7.out]
          rintro e w8 ⟨rfl, rfl⟩
          go_wp2
          go_ret
          exact ⟨rfl, B7⟩
        · cases h12
      case false =>
        go_wp2_with fail
        refine (Add_abs b c _ k (-v) 0 _ ht5 hk hk5 HE.out).mono ?_
        rintro e w7 ⟨rfl, xs7, ht7, hl7, hn7, hj7, hB7⟩
        have B7 := B5.trans (hB7 _ hBc)
        have HN7 := Lib.hid hn7
        have hk7 : k < xs7.length := by rw [hl7]; exact hk5
        clear hn7 hl7 hj7
        go_wp2_with fail
        refine (Read_ok b c _ k _ ht7 hk hk7).mono ?_
        rw [HN7.out]
        rintro e w8 ⟨rfl, rfl⟩
        go_wp2
        go_ret
        exact ⟨rfl, B7⟩
  by_cases g1 : v ≤ -1000000
  · exact key true (fun _ => .inl g1) (fun h => by cases h)
  · by_cases g2 : 1000000 ≤ v
    · exact key true (fun _ => .inr ⟨g1, g2⟩) (fun h => by cases h)
    · exact key false (fun h => by cases h) (fun _ => ⟨g1, g2⟩)

theorem two_all (n k y m : Int) (hy : Fits y) (hm : Fits m) (w : World) :
    Calls Try.prog 3 #[.int .i64 n, .int .i64 k, .int .i64 y, .int .i64 m] w fun e w' => e = .returned (.bool true) ∧ Below w.heap.size w w' := by
  by_cases hn : 1 ≤ n ∧ n ≤ 64
  · obtain ⟨h1, h2⟩ := hn
    obtain ⟨n, rfl⟩ := Int.eq_ofNat_of_zero_le (show 0 ≤ n by omega)
    by_cases hk : 0 ≤ k ∧ k < n
    · by_cases hmy : m ≤ y
      · by_cases e : y = m
        · exact two_in n k y m y (by omega) (by omega) hk.1 hk.2 hy hm false false (.inl ⟨hmy, rfl⟩) (by simp) (by simpa using e) rfl w
        · exact two_in n k y m y (by omega) (by omega) hk.1 hk.2 hy hm false true (.inl ⟨hmy, rfl⟩) (by simp) (by simpa using e) rfl w
      · exact two_in n k y m m (by omega) (by omega) hk.1 hk.2 hy hm true false (.inr ⟨by omega, rfl⟩) (by rw [bne_iff_ne]; omega) (by simp) rfl w
    · exact two_out n k y m (by omega) (by omega) (by omega) w
  · exact two_bad n k y m (by omega) w
end Go.Proofs.Ytonfmgdikgedfaa.Ta
