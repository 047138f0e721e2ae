/- Overriding: all of a world (plain). -/
import Derived.Test.YtipinmbpdgjalaaGreatDoorOA
import Derived.Test.YtipinmbpdgjalaaGreatDoorOB
set_option maxRecDepth 100000
set_option maxHeartbeats 1000000
set_option linter.unusedVariables false
set_option linter.unusedSimpArgs false
namespace Go.Proofs.YtipinmbpdgjalaaGreatDoor.Hi
open Go.RowKit Bs

/-- Those of a row whose class is c. -/
def ofC (c : Nat) (L : List (Int × Int)) : List (Int × Int) := L.filter fun p => p.1 == (c : Int)
/-- All that override a. -/
def allM (m : List EntM) (x : MethM) (a : Int × Int) : List (Int × Int) := (List.range m.length).flatMap fun c => ofC c (downM m x a c)

theorem any_same {α : Type} {f g : α → Bool} : ∀ {L : List α}, (∀ x ∈ L, f x = g x) → L.any f = L.any g
  | [], _ => rfl
  | x :: r, h => by rw [List.any_cons, List.any_cons, h x (List.mem_cons_self ..), any_same fun y hy => h y (List.mem_cons_of_mem _ hy)]

/-- Classes that are there. -/
def InR (m : List EntM) (L : List (Int × Int)) : Prop := ∀ p ∈ L, ∃ k : Nat, p.1 = k ∧ k < m.length
theorem step_in {m : List EntM} {n d : ByteArray} {a : Int × Int} {L : List (Int × Int)} {c : Nat} (hc : c < m.length) (h : InR m L) : InR m (stepM m n d a L (c : Int)) := by
  unfold stepM
  cases ho : ownM m n d (c : Int) with
  | none => exact h
  | some id =>
    simp only
    split
    · exact h
    · split
      · intro p hp
        rcases List.mem_append.1 hp with hp | hp
        · exact h p hp
        · obtain rfl := List.mem_singleton.1 hp
          exact ⟨c, (own_spec ho).1, hc⟩
      · exact h
theorem fold_in {m : List EntM} {n d : ByteArray} {a : Int × Int} : ∀ (l : List Int), (∀ x ∈ l, ∃ k : Nat, x = k ∧ k < m.length) → ∀ {L : List (Int × Int)}, InR m L → InR m (l.foldl (stepM m n d a) L)
  | [], _, _, h => h
  | c :: l, hl, L, h => by
    obtain ⟨k, rfl, hk⟩ := hl c (List.mem_cons_self ..)
    exact fold_in l (fun y hy => hl y (List.mem_cons_of_mem _ hy)) (step_in hk h)
theorem downL_in {m : List EntM} {a : Nat} (ha : a < m.length) (j : Int) (r : Nat) : InR m (downL m ((a : Int), j) r) := fun p hp => by
  rw [downL_mem hp]
  exact ⟨a, rfl, ha⟩
theorem ch_nat {m : List EntM} (hw : WFm m) {r : Nat} (hr : r < m.length) : ∀ x ∈ (ch m r).reverse, ∃ k : Nat, x = k ∧ k < m.length := fun x hx => by
  obtain ⟨k, rfl, _, hk, _⟩ := ch_mem hw hr x (List.mem_reverse.1 hx)
  exact ⟨k, rfl, hk⟩
theorem down_in {m : List EntM} (hw : WFm m) {x : MethM} {a : Nat} (ha : a < m.length) (j : Int) {r : Nat} (hr : r < m.length) : InR m (downM m x ((a : Int), j) r) := by
  unfold downM
  split
  · intro p hp; cases hp
  · split
    · exact fold_in _ (ch_nat hw hr) (downL_in ha j r)
    · exact downL_in ha j r

theorem ofC_append (c : Nat) (A B : List (Int × Int)) : ofC c (A ++ B) = ofC c A ++ ofC c B := List.filter_append ..
theorem ofC_le (c : Nat) (L : List (Int × Int)) : (ofC c L).length ≤ L.length := List.length_filter_le _ _
theorem ofC_mem {c : Nat} {L : List (Int × Int)} {p : Int × Int} (h : p ∈ ofC c L) : p ∈ L ∧ p.1 = (c : Int) := by
  obtain ⟨h1, h2⟩ := List.mem_filter.1 h
  exact ⟨h1, by simpa using h2⟩
theorem downL_le (m : List EntM) (a : Int × Int) (r : Nat) : (downL m a r).length ≤ 1 := by
  unfold downL
  split <;> simp
theorem fold_ofC {m : List EntM} {n d : ByteArray} {a : Int × Int} {r : Nat} : ∀ (l : List Int), (r : Int) ∉ l → ∀ L, ofC r (l.foldl (stepM m n d a) L) = ofC r L
  | [], _, _ => rfl
  | c :: l, h, L => by
    rw [List.foldl_cons, fold_ofC l (fun e => h (List.mem_cons_of_mem _ e))]
    unfold stepM
    cases ho : ownM m n d c with
    | none => rfl
    | some id =>
      simp only
      split
      · rfl
      · split
        · rw [ofC_append]
          have : ofC r [id] = [] := by
            unfold ofC
            rw [List.filter_cons_of_neg]
            · rfl
            · have := (own_spec ho).1
              simp only [beq_iff_eq]
              intro e
              exact h (by rw [← e, this]; exact List.mem_cons_self ..)
          rw [this, List.append_nil]
        · rfl
/-- A chain: the class, then those above. -/
theorem ch_cons {m : List EntM} (hw : WFm m) {r : Nat} (hr : r < m.length) : ∃ t, ch m r = (r : Int) :: t ∧ (r : Int) ∉ t := by
  have hh := ch_head hw hr
  have hn := ch_nodup hw hr
  cases hc : ch m r with
  | nil => rw [hc] at hh; cases hh
  | cons c t =>
    rw [hc] at hh hn
    have e : c = (r : Int) := Option.some.inj hh
    subst e
    exact ⟨t, rfl, (List.nodup_cons.1 hn).1⟩
/-- Of one class there is one at the most. -/
theorem down_top {m : List EntM} (hw : WFm m) (x : MethM) (a : Int × Int) {r : Nat} (hr : r < m.length) : (ofC r (downM m x a r)).length ≤ 1 := by
  unfold downM
  split
  · simp [ofC]
  split
  · obtain ⟨t, e, hn⟩ := ch_cons hw hr
    rw [e, List.reverse_cons, List.foldl_append, List.foldl_cons, List.foldl_nil]
    have hG := fold_ofC (m := m) (n := x.name) (d := x.desc) (a := a) t.reverse (fun h => hn (List.mem_reverse.1 h)) (downL m a r)
    generalize t.reverse.foldl (stepM m x.name x.desc a) (downL m a r) = G at hG
    have hl : (ofC r G).length ≤ 1 := by rw [hG]; exact Nat.le_trans (ofC_le _ _) (downL_le _ _ _)
    unfold stepM
    cases ho : ownM m x.name x.desc (r : Int) with
    | none => exact hl
    | some id =>
      simp only
      split
      · exact hl
      · next hc =>
        split
        · have h0 : ofC r G = [] := by
            rw [hG]
            cases hL : ofC r (downL m a r) with
            | nil => rfl
            | cons p q =>
              obtain ⟨h1, h2⟩ := ofC_mem (hL ▸ List.mem_cons_self .. : p ∈ ofC r (downL m a r))
              rw [downL_mem h1] at h2
              simp [h2] at hc
          rw [ofC_append, h0, List.nil_append]
          exact Nat.le_trans (ofC_le _ _) (by simp)
        · exact hl
  · exact Nat.le_trans (ofC_le _ _) (downL_le _ _ _)

def allR (m : List EntM) (a : Int × Int) : List (Int × Int) × Int := match methAt m a with
  | some x => (allM m x a, 0)
  | none => ([], 3)
theorem allR_zero {m : List EntM} {a : Int × Int} (h : (allR m a).2 = 0) : ∃ x, methAt m a = some x ∧ allR m a = (allM m x a, 0) := by
  unfold allR at *
  cases hx : methAt m a with
  | none => rw [hx] at h; cases h
  | some x => exact ⟨x, rfl, rfl⟩
/-- All, of the first k classes. -/
def allK (m : List EntM) (x : MethM) (a : Int × Int) (k : Nat) : List (Int × Int) := (List.range k).flatMap fun c => ofC c (downM m x a c)
theorem allK_succ (m : List EntM) (x : MethM) (a : Int × Int) (k : Nat) : allK m x a (k + 1) = allK m x a k ++ ofC k (downM m x a k) := by
  unfold allK
  rw [List.range_succ, List.flatMap_append]
  simp
theorem allK_len {m : List EntM} (hw : WFm m) (x : MethM) (a : Int × Int) : ∀ k, k ≤ m.length → (allK m x a k).length ≤ k
  | 0, _ => by simp [allK]
  | k + 1, h => by
    have h1 := allK_len hw x a k (by omega)
    have h2 := down_top hw x a (r := k) (by omega)
    rw [allK_succ, List.length_append]
    omega
end Go.Proofs.YtipinmbpdgjalaaGreatDoor.Hi
/- Overriding: what First and All answer (plain). -/
set_option maxRecDepth 100000
set_option maxHeartbeats 1000000
set_option linter.unusedVariables false
set_option linter.unusedSimpArgs false
namespace Go.Proofs.YtipinmbpdgjalaaGreatDoor.Hi
open Go.RowKit Bs

/-! ### Flags -/

/-- The three lowest of a flag's bits. -/
def lo3 (f : Int) : Nat := (BitVec.ofInt 64 f &&& BitVec.ofInt 64 7).toNat
theorem lo3_lt (f : Int) : lo3 f < 8 := by
  unfold lo3
  rw [BitVec.toNat_and]
  have h := Nat.and_le_right (n := (BitVec.ofInt 64 f).toNat) (m := (BitVec.ofInt 64 7).toNat)
  have e : (BitVec.ofInt 64 7).toNat = 7 := by decide
  omega
theorem bits_lo3 (f s : Int) (hs : BitVec.ofInt 64 7 &&& BitVec.ofInt 64 s = BitVec.ofInt 64 s) : bits .and .i64 f s = IntKind.i64.wrap ((BitVec.ofNat 64 (lo3 f) &&& BitVec.ofInt 64 s).toNat : Int) := by
  show IntKind.i64.wrap ((BitVec.ofInt 64 f &&& BitVec.ofInt 64 s).toNat : Int) = _
  have h1 : BitVec.ofNat 64 (lo3 f) = BitVec.ofInt 64 f &&& BitVec.ofInt 64 7 := by
    unfold lo3
    exact BitVec.eq_of_toNat_eq (by rw [BitVec.toNat_ofNat]; exact Nat.mod_eq_of_lt (BitVec.isLt _))
  rw [h1, BitVec.and_assoc, hs]
theorem lo3_cases (f : Int) : lo3 f = 0 ∨ lo3 f = 1 ∨ lo3 f = 2 ∨ lo3 f = 3 ∨ lo3 f = 4 ∨ lo3 f = 5 ∨ lo3 f = 6 ∨ lo3 f = 7 := by
  have := lo3_lt f
  omega
/-- A sound method's flags: what is private is nothing else. -/
theorem priv_open {f : Int} {i n : Bool} (h : Lf.methodFlags f i n = true) (h2 : bits .and .i64 f 2 ≠ 0) : openM f = 2 := by
  have h3 : (bits .and .i64 (bits .and .i64 f 7) (wrap64 (bits .and .i64 f 7 - 1)) != 0) = false := by
    unfold Lf.methodFlags at h
    simp only [Bool.and_eq_true, Bool.not_eq_true'] at h
    exact h.1.1.1.2
  have e1 := bits_lo3 f 1 (by decide)
  have e2 := bits_lo3 f 2 (by decide)
  have e4 := bits_lo3 f 4 (by decide)
  have e7 := bits_lo3 f 7 (by decide)
  rw [e7] at h3
  rw [e2] at h2
  unfold openM
  rw [e1, e4, e2]
  rcases lo3_cases f with e | e | e | e | e | e | e | e <;> rw [e] at h2 h3 ⊢ <;> revert h2 h3 <;> decide +kernel
/-- What is public or protected is open. -/
theorem open_pub {f : Int} (h : bits .and .i64 f 5 ≠ 0) : openM f = 1 ∨ openM f = 4 := by
  have e1 := bits_lo3 f 1 (by decide)
  have e2 := bits_lo3 f 2 (by decide)
  have e4 := bits_lo3 f 4 (by decide)
  have e5 := bits_lo3 f 5 (by decide)
  rw [e5] at h
  unfold openM
  rw [e1, e4, e2]
  rcases lo3_cases f with e | e | e | e | e | e | e | e <;> rw [e] at h ⊢ <;> revert h <;> decide +kernel
theorem wrap_zeroO {n : Nat} (hn : n < 18446744073709551616) (h : IntKind.i64.wrap (n : Int) = 0) : n = 0 := by
  simp only [IntKind.wrap, IntKind.bits, IntKind.signed] at h
  omega
theorem mask_zeroO {f a b : Int} (hab : BitVec.ofInt 64 a &&& BitVec.ofInt 64 b = BitVec.ofInt 64 b) (h : bits .and .i64 f a = 0) : bits .and .i64 f b = 0 := by
  have h1 : (BitVec.ofInt 64 f &&& BitVec.ofInt 64 a).toNat = 0 := wrap_zeroO (BitVec.isLt _) h
  have h2 : BitVec.ofInt 64 f &&& BitVec.ofInt 64 a = 0#64 := BitVec.eq_of_toNat_eq (by simpa using h1)
  have h3 : BitVec.ofInt 64 f &&& BitVec.ofInt 64 b = 0#64 := by rw [← hab, ← BitVec.and_assoc, h2, BitVec.zero_and]
  show IntKind.i64.wrap ((BitVec.ofInt 64 f &&& BitVec.ofInt 64 b).toNat : Int) = 0
  rw [h3]
  decide

/-- In a world each private method is neither public nor protected. -/
def FlP (m : List EntM) : Prop := ∀ e ∈ m, ∀ x ∈ e.c.meths, bits .and .i64 x.flags 2 ≠ 0 → openM x.flags = 2
theorem flP_start : FlP startM := by
  have h : (startM.all fun e => e.c.meths.all fun x => bits .and .i64 x.flags 2 == 0) = true := by kernel_rfl
  intro e he x hx h2
  have := List.all_eq_true.1 (List.all_eq_true.1 h e he) x hx
  exact absurd (by simpa using this) h2
theorem flP_step {m : List EntM} (h : FlP m) (c : ClsM) : FlP (defM m c) := by
  unfold defM
  split
  · next hd =>
    intro e he x hx h2
    rcases List.mem_append.1 he with he | he
    · exact h e he x hx h2
    · obtain rfl := List.mem_singleton.1 he
      have hx' : x ∈ c.meths := hx
      have hk : Pr.chk c = true := by
        unfold defE at hd
        cases hk : Pr.chk c with
        | true => rfl
        | false => rw [hk] at hd; simp at hd
      obtain ⟨k, hk1, hk2⟩ := List.getElem_of_mem hx'
      unfold Pr.chk at hk
      simp only [Bool.and_eq_true] at hk
      have hm := List.all_eq_true.1 hk.2 k (List.mem_range.2 hk1)
      unfold Pr.methOk at hm
      rw [List.getElem?_eq_getElem hk1, hk2] at hm
      simp only [Bool.and_eq_true] at hm
      have hb := hm.1
      unfold Pr.methodB at hb
      simp only [Bool.and_eq_true] at hb
      exact priv_open hb.1.2 h2
  · exact h
theorem flP_defs (l : List ClsM) : FlP (defs l) := by
  unfold defs
  have key : ∀ (l : List ClsM) (m : List EntM), FlP m → FlP (l.foldl defM m) := fun l => by
    induction l with
    | nil => intro m h; exact h
    | cons c r ih => intro m h; exact ih _ (flP_step h c)
  exact key l _ flP_start
theorem flP_at {m : List EntM} (h : FlP m) {p : Int × Int} {x : MethM} (hx : methAt m p = some x) (h2 : bits .and .i64 x.flags 2 ≠ 0) : openM x.flags = 2 := by
  obtain ⟨i, j, hi, hj, _, rfl⟩ := methAt_some hx
  exact h _ (List.getElem_mem hi) _ (List.getElem_mem hj) h2

/-! ### Order -/

/-- Of ever greater classes. -/
def Asc (L : List (Int × Int)) : Prop := L.Pairwise fun p q => p.1 < q.1
theorem ch_desc {m : List EntM} (hw : WFm m) {r : Nat} (hr : r < m.length) : (ch m r).Pairwise fun x y => y < x := by
  refine ch_ind hw (P := fun r => ∀ h : r < m.length, (ch m r).Pairwise fun x y => y < x) ?_ ?_ r hr hr
  · intro h
    rw [ch_zero hw h]
    exact List.pairwise_singleton _ _
  · intro a p h h0 hpa hp ih _
    have hpl : p < m.length := by omega
    rw [ch_step hw h h0 hp hpl]
    refine List.pairwise_cons.2 ⟨fun x hx => ?_, ih hpl⟩
    obtain ⟨k, rfl, hk, _⟩ := ch_mem hw hpl x hx
    omega
theorem downL_asc (m : List EntM) (a : Int × Int) (r : Nat) : Asc (downL m a r) := by
  unfold downL
  split
  · exact List.pairwise_singleton _ _
  · exact List.Pairwise.nil
section
variable {m : List EntM} (hw : WFm m) (ho : OrdM m)
include hw ho
theorem fold_asc {n d : ByteArray} {a : Nat} (ha : a < m.length) (j : Int) : ∀ (l : List Int), (∀ x ∈ l, ∃ k : Nat, x = k ∧ k < m.length) → l.Pairwise (fun x y => x < y) → ∀ L, Asc L → (∀ p ∈ L, p = ((a : Int), j) ∨ ∀ x ∈ l, p.1 < x) → Asc (l.foldl (stepM m n d ((a : Int), j)) L)
  | [], _, _, _, h, _ => h
  | c :: l, hl, hp, L, hL, hlt => by
    obtain ⟨hp1, hp2⟩ := List.pairwise_cons.1 hp
    obtain ⟨k, rfl, hk⟩ := hl c (List.mem_cons_self ..)
    rw [List.foldl_cons]
    have keep : ∀ p ∈ L, p = ((a : Int), j) ∨ ∀ x ∈ l, p.1 < x := fun p hp => (hlt p hp).imp id fun h x hx => h x (List.mem_cons_of_mem _ hx)
    unfold stepM
    cases hown : ownM m n d (k : Int) with
    | none => exact fold_asc ha j l (fun x hx => hl x (List.mem_cons_of_mem _ hx)) hp2 L hL keep
    | some id =>
      simp only
      split
      · exact fold_asc ha j l (fun x hx => hl x (List.mem_cons_of_mem _ hx)) hp2 L hL keep
      · next hc =>
        split
        · have hid := (own_spec hown).1
          simp only [Bool.or_eq_true, beq_iff_eq, Bool.not_eq_true', not_or, Bool.not_eq_false] at hc
          have hka : (a : Int) < (k : Int) := by
            have h1 := ext_le hw ho hk ha hc.2
            have h2 := hc.1
            omega
          refine fold_asc ha j l (fun x hx => hl x (List.mem_cons_of_mem _ hx)) hp2 _ ?_ ?_
          · refine List.pairwise_append.2 ⟨hL, List.pairwise_singleton _ _, fun p hpL q hq => ?_⟩
            obtain rfl := List.mem_singleton.1 hq
            rw [hid]
            rcases hlt p hpL with rfl | h
            · exact hka
            · exact h _ (List.mem_cons_self ..)
          · intro p hp
            rcases List.mem_append.1 hp with hp | hp
            · exact keep p hp
            · obtain rfl := List.mem_singleton.1 hp
              exact .inr fun x hx => by rw [hid]; exact hp1 x hx
        · exact fold_asc ha j l (fun x hx => hl x (List.mem_cons_of_mem _ hx)) hp2 L hL keep
theorem down_asc (x : MethM) {a : Nat} (ha : a < m.length) (j : Int) {r : Nat} (hr : r < m.length) : Asc (downM m x ((a : Int), j) r) := by
  unfold downM
  split
  · exact List.Pairwise.nil
  split
  · exact fold_asc hw ho ha j _ (ch_nat hw hr) (List.pairwise_reverse.2 (ch_desc hw hr)) _ (downL_asc _ _ _) (fun p hp => .inl (downL_mem hp))
  · exact downL_asc _ _ _
/-- What stands above does as it does alone. -/
theorem down_above (x : MethM) {a : Nat} (ha : a < m.length) (j : Int) {r c : Nat} (hr : r < m.length) (hc : (c : Int) ∈ ch m r) : ofC c (downM m x ((a : Int), j) r) = ofC c (downM m x ((a : Int), j) c) := by
  obtain ⟨k, e, _, hcl, _⟩ := ch_mem hw hr _ hc
  obtain rfl : c = k := by omega
  obtain ⟨P, hP, hPx⟩ := ch_split hw ho hr c hc
  have hne : ∀ L, ofC c (P.reverse.foldl (stepM m x.name x.desc ((a : Int), j)) L) = ofC c L := fun L => fold_ofC _ (fun h => by
    obtain ⟨k, e, _, hk, _⟩ := hPx _ (List.mem_reverse.1 h)
    omega) L
  have hself := List.mem_of_getElem? (ch_head hw hcl)
  -- a below c, in the chain
  have low : (a : Int) ∈ ch m r → (a : Int) ∉ ch m c → isIfaceM m (a : Int) = false → downL m ((a : Int), j) c = [] ∧ (c : Int) ∈ ch m a ∧ (a : Int) ≠ c := by
    intro h1 h2 h3
    have hac : (a : Int) ≠ c := fun e => h2 (by rw [e]; exact hself)
    refine ⟨?_, ?_, hac⟩
    · unfold downL
      rw [h3, if_neg]
      simp [h2]
    · obtain ⟨Q, hQ, hQx⟩ := ch_split hw ho hr a h1
      rw [hQ] at hc
      rcases List.mem_append.1 hc with h | h
      · obtain ⟨k, e, hk, hka, hext⟩ := hQx _ h
        obtain rfl : c = k := by omega
        rcases (ext_iff hw ho hcl ha).1 hext with h | h
        · exact absurd h h2
        · obtain ⟨k', e', _, hif⟩ := clo_mem hw ho hcl _ h
          obtain rfl : a = k' := by omega
          unfold isIfaceM at h3
          rw [entAt_nat ha] at h3
          rw [clsAt_at ha] at hif
          simp only at h3
          rw [h3] at hif
          cases hif
      · exact h
  have key : ∀ L', downL m ((a : Int), j) r = L' → downL m ((a : Int), j) c = L' ∨ ((c : Int) ∈ ch m a ∧ (a : Int) ≠ c ∧ L' = [((a : Int), j)] ∧ downL m ((a : Int), j) c = []) := by
    rintro L' rfl
    by_cases h1 : isIfaceM m (a : Int) = true
    · left; unfold downL; rw [h1]; simp
    have h1' : isIfaceM m (a : Int) = false := by simpa using h1
    by_cases h2 : (a : Int) ∈ ch m c
    · left
      have h3 := ch_sub hw hr c hc _ h2
      unfold downL
      rw [if_pos (by simp [h2]), if_pos (by simp [h3])]
    · by_cases h3 : (a : Int) ∈ ch m r
      · right
        obtain ⟨e1, e2, e3⟩ := low h3 h2 h1'
        refine ⟨e2, e3, ?_, e1⟩
        unfold downL
        rw [if_pos (by simp [h3])]
      · left
        unfold downL
        rw [h1', if_neg (by simp [h2]), if_neg (by simp [h3])]
  unfold downM
  split
  · rfl
  split
  · rw [hP, List.reverse_append, List.foldl_append, hne]
    rcases key _ rfl with h | ⟨h1, h2, h3, h4⟩
    · rw [h]
    · rw [h3, h4, fold_nil, fold_above hw ho ha j _ (fun y hy => ch_sub hw ha c h1 _ (List.mem_reverse.1 hy))]
      unfold ofC
      simp [h2]
  · rcases key _ rfl with h | ⟨h1, h2, h3, h4⟩
    · rw [h]
    · rw [h3, h4]
      unfold ofC
      simp [h2]
end
end Go.Proofs.YtipinmbpdgjalaaGreatDoor.Hi
/- Overriding: the laws of First and All (plain). -/
set_option maxRecDepth 100000
set_option maxHeartbeats 1000000
set_option linter.unusedVariables false
set_option linter.unusedSimpArgs false
namespace Go.Proofs.YtipinmbpdgjalaaGreatDoor.Hi
open Go.RowKit Bs

/-- Those that override a, in the chain of r. -/
def firstL (m : List EntM) (x : MethM) (a : Int × Int) (r : Nat) : List (Int × Int) := (downM m x a r).filter fun p => (ch m r).contains p.1
def firstE (m : List EntM) (x : MethM) (a : Int × Int) (r : Nat) : (Int × Int) × Int := match (firstL m x a r).getLast? with
  | none => (((0 : Int), (0 : Int)), 6)
  | some q => (q, 0)

theorem ofC_iff {c : Nat} {L : List (Int × Int)} {p : Int × Int} : p ∈ ofC c L ↔ p ∈ L ∧ p.1 = (c : Int) := by
  unfold ofC
  rw [List.mem_filter]
  simp
theorem mem_all {m : List EntM} {x : MethM} {a p : Int × Int} : p ∈ allK m x a m.length ↔ ∃ c : Nat, c < m.length ∧ p ∈ downM m x a c ∧ p.1 = (c : Int) := by
  unfold allK
  rw [List.mem_flatMap]
  constructor
  · rintro ⟨c, hc, hp⟩
    exact ⟨c, List.mem_range.1 hc, ofC_iff.1 hp⟩
  · rintro ⟨c, hc, hp⟩
    exact ⟨c, List.mem_range.2 hc, ofC_iff.2 hp⟩
theorem allK_asc {m : List EntM} (hw : WFm m) (x : MethM) (a : Int × Int) : ∀ k, k ≤ m.length → Asc (allK m x a k) ∧ ∀ p ∈ allK m x a k, p.1 < (k : Int)
  | 0, _ => ⟨by unfold allK Asc; simp, by unfold allK; simp⟩
  | k + 1, h => by
    obtain ⟨h1, h2⟩ := allK_asc hw x a k (by omega)
    have h3 := down_top hw x a (r := k) (by omega)
    rw [allK_succ]
    refine ⟨List.pairwise_append.2 ⟨h1, ?_, fun p hp q hq => ?_⟩, fun p hp => ?_⟩
    · match hL : ofC k (downM m x a k), h3 with
      | [], _ => exact List.Pairwise.nil
      | [q], _ => exact List.pairwise_singleton _ _
      | q :: q' :: t, h3 => simp at h3
    · rw [(ofC_iff.1 hq).2]
      exact h2 p hp
    · rcases List.mem_append.1 hp with hp | hp
      · have := h2 p hp; omega
      · rw [(ofC_iff.1 hp).2]; omega
theorem last_asc {F : List (Int × Int)} (h : Asc F) {q : Int × Int} (hq : F.getLast? = some q) {p : Int × Int} (hp : p ∈ F) : p = q ∨ p.1 < q.1 := by
  obtain ⟨ys, rfl⟩ := List.getLast?_eq_some_iff.1 hq
  rcases List.mem_append.1 hp with hp | hp
  · exact .inr ((List.pairwise_append.1 h).2.2 p hp q (List.mem_singleton.2 rfl))
  · exact .inl (List.mem_singleton.1 hp)
theorem asc_same {F : List (Int × Int)} (h : Asc F) {p q : Int × Int} (hp : p ∈ F) (hq : q ∈ F) (e : p.1 = q.1) : p = q := by
  induction F with
  | nil => cases hp
  | cons z t ih =>
    obtain ⟨h1, h2⟩ := List.pairwise_cons.1 h
    rcases List.mem_cons.1 hp with e1 | hp'
    · rcases List.mem_cons.1 hq with e2 | hq'
      · rw [e1, e2]
      · have := h1 _ hq'
        rw [e1] at e
        omega
    · rcases List.mem_cons.1 hq with e2 | hq'
      · have := h1 _ hp'
        rw [e2] at e
        omega
      · exact ih h2 hp' hq'

theorem all_over {m : List EntM} {x : MethM} {a p : Int × Int} (hx : methAt m a = some x) (hp : p ∈ allK m x a m.length) : ovR m p a = (true, 0) := by
  obtain ⟨c, hc, h1, h2⟩ := mem_all.1 hp
  have hy : ∃ y, methAt m p = some y := by
    rcases (down_mem h1).2 with e | ⟨_, c', _, h3, _⟩
    · exact ⟨x, by rw [e]; exact hx⟩
    · obtain ⟨_, _, y, hy, _⟩ := own_spec h3
      exact ⟨y, hy⟩
  obtain ⟨y, hy⟩ := hy
  rw [ovR_ok hx hy]
  unfold ovM
  rw [h2, Int.toNat_natCast, List.contains_iff_mem.2 h1]
theorem all_self {m : List EntM} (hw : WFm m) {x : MethM} {a : Int × Int} (hx : methAt m a = some x) (hs : statF x.flags = false) : a ∈ allK m x a m.length := by
  obtain ⟨i, j, hi, _, rfl, _⟩ := methAt_some hx
  have h := ov_refl hw hx
  rw [hs] at h
  have h1 := ov_mem h
  exact mem_all.2 ⟨i, hi, by simpa using h1, rfl⟩
theorem all_priv {m : List EntM} (hw : WFm m) {x : MethM} {a : Int × Int} (hx : methAt m a = some x) (hs : statF x.flags = false) (hp : openM x.flags = 2) : allK m x a m.length = [a] := by
  have hseen : ∀ c : Int, seenM m c a = false := fun c => by
    unfold seenM flO
    rw [hx]
    simp [hp]
  have hfold : ∀ (l : List Int) (L : List (Int × Int)), (∀ p ∈ L, p = a) → l.foldl (stepM m x.name x.desc a) L = L := fun l => by
    induction l with
    | nil => intro L _; rfl
    | cons c l ih =>
      intro L hL
      have hs : stepM m x.name x.desc a L c = L := by
        unfold stepM
        split
        · rfl
        · split
          · rfl
          · rw [if_neg]
            intro h
            obtain ⟨q, hq1, hq2⟩ := List.any_eq_true.1 h
            rw [hL q hq1, hseen] at hq2
            cases hq2
      rw [List.foldl_cons, hs]
      exact ih L hL
  have hall : ∀ q ∈ allK m x a m.length, q = a := fun q hq => by
    obtain ⟨c, _, h1, _⟩ := mem_all.1 hq
    unfold downM at h1
    rw [hs] at h1
    simp only [Bool.false_eq_true, if_false] at h1
    split at h1
    · rw [hfold _ _ fun p hp => downL_mem hp] at h1
      exact downL_mem h1
    · exact downL_mem h1
  have ha := all_self hw hx hs
  have hA := (allK_asc hw x a m.length (Nat.le_refl _)).1
  match hL : allK m x a m.length with
  | [] => rw [hL] at ha; cases ha
  | [q] => rw [hall q (by rw [hL]; exact List.mem_singleton.2 rfl)]
  | q :: q' :: t =>
    rw [hL] at hA hall
    have e1 := hall q (List.mem_cons_self ..)
    have e2 := hall q' (List.mem_cons_of_mem _ (List.mem_cons_self ..))
    have := (List.pairwise_cons.1 hA).1 q' (List.mem_cons_self ..)
    rw [e1, e2] at this
    omega
section
variable {m : List EntM} (hw : WFm m) (ho : OrdM m)
include hw ho
theorem mem_first (x : MethM) {a : Nat} (ha : a < m.length) (j : Int) {r : Nat} (hr : r < m.length) {q : Int × Int} : q ∈ firstL m x ((a : Int), j) r ↔ q ∈ allK m x ((a : Int), j) m.length ∧ q.1 ∈ ch m r := by
  unfold firstL
  rw [List.mem_filter, List.contains_iff_mem, mem_all]
  constructor
  · rintro ⟨h1, h2⟩
    obtain ⟨c, e, _, hc, _⟩ := ch_mem hw hr _ h2
    refine ⟨⟨c, hc, ?_, e⟩, h2⟩
    rw [e] at h2
    have := ofC_iff.2 ⟨h1, e⟩
    rw [down_above hw ho x ha j hr h2] at this
    exact (ofC_iff.1 this).1
  · rintro ⟨⟨c, hc, h1, e⟩, h2⟩
    refine ⟨?_, h2⟩
    rw [e] at h2
    have := ofC_iff.2 ⟨h1, e⟩
    rw [← down_above hw ho x ha j hr h2] at this
    exact (ofC_iff.1 this).1
theorem first_near (x : MethM) {a : Nat} (ha : a < m.length) (j : Int) {r : Nat} (hr : r < m.length) {k : Nat} (hk : k < (ch m r).length) {p : Int × Int} (hp : p ∈ allK m x ((a : Int), j) m.length) (he : p.1 = (ch m r)[k]) (hn : ∀ k' (h : k' < (ch m r).length), k' < k → ∀ q ∈ allK m x ((a : Int), j) m.length, q.1 ≠ (ch m r)[k']) :
    firstE m x ((a : Int), j) r = (p, 0) := by
  have hpF := (mem_first hw ho x ha j hr).2 ⟨hp, by rw [he]; exact List.getElem_mem hk⟩
  have hA : Asc (firstL m x ((a : Int), j) r) := (down_asc hw ho x ha j hr).filter _
  unfold firstE
  cases hl : (firstL m x ((a : Int), j) r).getLast? with
  | none =>
    rw [List.getLast?_eq_none_iff] at hl
    rw [hl] at hpF
    cases hpF
  | some q =>
    have hqF : q ∈ firstL m x ((a : Int), j) r := List.mem_of_getLast? hl
    obtain ⟨hq1, hq2⟩ := (mem_first hw ho x ha j hr).1 hqF
    rcases last_asc hA hl hpF with e | hlt
    · rw [e]
    · exfalso
      obtain ⟨k2, hk2, e2⟩ := List.getElem_of_mem hq2
      by_cases hkk : k2 < k
      · exact hn k2 hk2 hkk q hq1 e2.symm
      · have hd := ch_desc hw hr
        rcases Nat.lt_or_ge k k2 with h | h
        · have := List.pairwise_iff_getElem.1 hd k k2 hk hk2 h
          rw [he, ← e2] at hlt
          omega
        · obtain rfl : k = k2 := by omega
          rw [he, ← e2] at hlt
          omega
theorem first_none (x : MethM) {a : Nat} (ha : a < m.length) (j : Int) {r : Nat} (hr : r < m.length) (hn : ∀ q ∈ allK m x ((a : Int), j) m.length, q.1 ∉ ch m r) :
    firstE m x ((a : Int), j) r = (((0 : Int), (0 : Int)), 6) := by
  unfold firstE
  have h0 : firstL m x ((a : Int), j) r = [] := List.eq_nil_iff_forall_not_mem.2 fun q hq => by
    obtain ⟨h1, h2⟩ := (mem_first hw ho x ha j hr).1 hq
    exact hn q h1 h2
  rw [h0]
  rfl
/-- What is open is overridden by whatever may. -/
theorem all_open {x y : MethM} {a : Int × Int} (hx : methAt m a = some x) (hs : statF x.flags = false) (hop : bits .and .i64 x.flags 5 ≠ 0) (hin : (x.name.toList == initN.toList) = false) (hif : isIfaceM m a.1 = false) {c : Nat} (hc : c < m.length) (hf : (findH m c x.name x.desc).2 = 0) (hci : isIfaceM m c = false) (he : extM m c a.1 = true) (hy : methAt m ((c : Int), (findH m c x.name x.desc).1) = some y) (hyf : bits .and .i64 y.flags 10 = 0) :
    ∃ p ∈ allK m x a m.length, p.1 = (c : Int) := by
  obtain ⟨i, j, hi, _, rfl, _⟩ := methAt_some hx
  by_cases hca : (c : Int) = (i : Int)
  · exact ⟨_, all_self hw hx hs, hca.symm⟩
  · have hys : statF y.flags = false := by unfold statF; rw [mask_zeroO (a := 10) (b := 8) (by decide) hyf]; rfl
    have hyp : privF y.flags = false := by unfold privF; rw [mask_zeroO (a := 10) (b := 2) (by decide) hyf]; rfl
    have hyn : y.name = x.name := by
      obtain ⟨b, hb, ek, hmq⟩ := findH_ok hc hf
      rw [ek, methAt_at hc hb] at hy
      rw [← Option.some.inj hy]
      exact (mEq_some hmq).1
    have hfree : freeX y = true := by unfold freeX; rw [hys, hyn, hin]; rfl
    have how : ownM m x.name x.desc (c : Int) = some ((c : Int), (findH m c x.name x.desc).1) := by
      unfold ownM
      rw [if_pos ⟨hf, hci⟩, hy]
      simp only
      rw [if_pos (by rw [hfree, hyp]; rfl)]
    have hfx : freeX x = true := by unfold freeX; rw [hs, hin]; rfl
    have hseen : seenM m (c : Int) ((i : Int), (j : Int)) = true := by
      unfold seenM flO
      simp only at hif
      rw [hx]
      simp only [hif]
      rcases open_pub hop with e | e <;> rw [e] <;> simp
    have hpl : plainM m ((c : Int), (findH m c x.name x.desc).1) ((i : Int), (j : Int)) x = true := by
      unfold plainM
      simp only at he ⊢
      rw [how, hfx, he, hseen]
      simp [hca]
    have := ov_mem (plain_ov hw ho hy hx hpl)
    exact ⟨_, mem_all.2 ⟨c, hc, by simpa using this, rfl⟩, rfl⟩
end
end Go.Proofs.YtipinmbpdgjalaaGreatDoor.Hi
