/- Overriding: what First and All answer (plain). -/
import Derived.Test.YtiiebakblkpkeaaGreatDoorOi
import Derived.Test.YtiiebakblkpkeaaGreatDoorOj1
set_option maxRecDepth 100000
set_option maxHeartbeats 1000000
set_option linter.unusedVariables false
set_option linter.unusedSimpArgs false
namespace Go.Proofs.YtiiebakblkpkeaaGreatDoor.Hi
open Go.RowKit Bs

/-! ### Flags -/

/-- The three lowest of a flag's bits. -/
def lo3 (f : Int) : Nat := (BitVec.ofInt 64 f &&& BitVec.ofInt 64 7).toNat
theorem lo3_lt (f : Int) : lo3 f < 8 := by
  unfold lo3
  rw [BitVec.toNat_and]
  have h := Nat.and_le_right (n := (BitVec.ofInt 64 f).toNat) (m := (BitVec.ofInt 64 7).toNat)
  have e : (BitVec.ofInt 64 7).toNat = 7 := by decide
  omega
theorem bits_lo3 (f s : Int) (hs : BitVec.ofInt 64 7 &&& BitVec.ofInt 64 s = BitVec.ofInt 64 s) : bits .and .i64 f s = IntKind.i64.wrap ((BitVec.ofNat 64 (lo3 f) &&& BitVec.ofInt 64 s).toNat : Int) := by
  show IntKind.i64.wrap ((BitVec.ofInt 64 f &&& BitVec.ofInt 64 s).toNat : Int) = _
  have h1 : BitVec.ofNat 64 (lo3 f) = BitVec.ofInt 64 f &&& BitVec.ofInt 64 7 := by
    unfold lo3
    exact BitVec.eq_of_toNat_eq (by rw [BitVec.toNat_ofNat]; exact Nat.mod_eq_of_lt (BitVec.isLt _))
  rw [h1, BitVec.and_assoc, hs]
theorem lo3_cases (f : Int) : lo3 f = 0 ∨ lo3 f = 1 ∨ lo3 f = 2 ∨ lo3 f = 3 ∨ lo3 f = 4 ∨ lo3 f = 5 ∨ lo3 f = 6 ∨ lo3 f = 7 := by
  have := lo3_lt f
  omega
/-- A sound method's flags: what is private is nothing else. -/
theorem priv_open {f : Int} {i n : Bool} (h : Lf.methodFlags f i n = true) (h2 : bits .and .i64 f 2 ≠ 0) : openM f = 2 := by
  have h3 : (bits .and .i64 (bits .and .i64 f 7) (wrap64 (bits .and .i64 f 7 - 1)) != 0) = false := by
    unfold Lf.methodFlags at h
    simp only [Bool.and_eq_true, Bool.not_eq_true'] at h
    exact h.1.1.1.2
  have e1 := bits_lo3 f 1 (by decide)
  have e2 := bits_lo3 f 2 (by decide)
  have e4 := bits_lo3 f 4 (by decide)
  have e7 := bits_lo3 f 7 (by decide)
  rw [e7] at h3
  rw [e2] at h2
  unfold openM
  rw [e1, e4, e2]
  rcases lo3_cases f with e | e | e | e | e | e | e | e <;> rw [e] at h2 h3 ⊢ <;> revert h2 h3 <;> decide +kernel
/-- What is public or protected is open. -/
theorem open_pub {f : Int} (h : bits .and .i64 f 5 ≠ 0) : openM f = 1 ∨ openM f = 4 := by
  have e1 := bits_lo3 f 1 (by decide)
  have e2 := bits_lo3 f 2 (by decide)
  have e4 := bits_lo3 f 4 (by decide)
  have e5 := bits_lo3 f 5 (by decide)
  rw [e5] at h
  unfold openM
  rw [e1, e4, e2]
  rcases lo3_cases f with e | e | e | e | e | e | e | e <;> rw [e] at h ⊢ <;> revert h <;> decide +kernel
theorem wrap_zeroO {n : Nat} (hn : n < 18446744073709551616) (h : IntKind.i64.wrap (n : Int) = 0) : n = 0 := by
  simp only [IntKind.wrap, IntKind.bits, IntKind.signed] at h
  omega
theorem mask_zeroO {f a b : Int} (hab : BitVec.ofInt 64 a &&& BitVec.ofInt 64 b = BitVec.ofInt 64 b) (h : bits .and .i64 f a = 0) : bits .and .i64 f b = 0 := by
  have h1 : (BitVec.ofInt 64 f &&& BitVec.ofInt 64 a).toNat = 0 := wrap_zeroO (BitVec.isLt _) h
  have h2 : BitVec.ofInt 64 f &&& BitVec.ofInt 64 a = 0#64 := BitVec.eq_of_toNat_eq (by simpa using h1)
  have h3 : BitVec.ofInt 64 f &&& BitVec.ofInt 64 b = 0#64 := by rw [← hab, ← BitVec.and_assoc, h2, BitVec.zero_and]
  show IntKind.i64.wrap ((BitVec.ofInt 64 f &&& BitVec.ofInt 64 b).toNat : Int) = 0
  rw [h3]
  decide

/-- In a world each private method is neither public nor protected. -/
def FlP (m : List EntM) : Prop := ∀ e ∈ m, ∀ x ∈ e.c.meths, bits .and .i64 x.flags 2 ≠ 0 → openM x.flags = 2
theorem flP_start : FlP startM := by
  have h : (startM.all fun e => e.c.meths.all fun x => bits .and .i64 x.flags 2 == 0) = true := by kernel_rfl
  intro e he x hx h2
  have := List.all_eq_true.1 (List.all_eq_true.1 h e he) x hx
  exact absurd (by simpa using this) h2
theorem flP_step {m : List EntM} (h : FlP m) (c : ClsM) : FlP (defM m c) := by
  unfold defM
  split
  · next hd =>
    intro e he x hx h2
    rcases List.mem_append.1 he with he | he
    · exact h e he x hx h2
    · obtain rfl := List.mem_singleton.1 he
      have hx' : x ∈ c.meths := hx
      have hk : Pr.chk c = true := by
        unfold defE at hd
        cases hk : Pr.chk c with
        | true => rfl
        | false => rw [hk] at hd; simp at hd
      obtain ⟨k, hk1, hk2⟩ := List.getElem_of_mem hx'
      unfold Pr.chk at hk
      simp only [Bool.and_eq_true] at hk
      have hm := List.all_eq_true.1 hk.2 k (List.mem_range.2 hk1)
      unfold Pr.methOk at hm
      rw [List.getElem?_eq_getElem hk1, hk2] at hm
      simp only [Bool.and_eq_true] at hm
      have hb := hm.1
      unfold Pr.methodB at hb
      simp only [Bool.and_eq_true] at hb
      exact priv_open hb.1.2 h2
  · exact h
theorem flP_defs (l : List ClsM) : FlP (defs l) := by
  unfold defs
  have key : ∀ (l : List ClsM) (m : List EntM), FlP m → FlP (l.foldl defM m) := fun l => by
    induction l with
    | nil => intro m h; exact h
    | cons c r ih => intro m h; exact ih _ (flP_step h c)
  exact key l _ flP_start
theorem flP_at {m : List EntM} (h : FlP m) {p : Int × Int} {x : MethM} (hx : methAt m p = some x) (h2 : bits .and .i64 x.flags 2 ≠ 0) : openM x.flags = 2 := by
  obtain ⟨i, j, hi, hj, _, rfl⟩ := methAt_some hx
  exact h _ (List.getElem_mem hi) _ (List.getElem_mem hj) h2

/-! ### Order -/

/-- Of ever greater classes. -/
def Asc (L : List (Int × Int)) : Prop := L.Pairwise fun p q => p.1 < q.1
theorem ch_desc {m : List EntM} (hw : WFm m) {r : Nat} (hr : r < m.length) : (ch m r).Pairwise fun x y => y < x := by
  refine ch_ind hw (P := fun r => ∀ h : r < m.length, (ch m r).Pairwise fun x y => y < x) ?_ ?_ r hr hr
  · intro h
    rw [ch_zero hw h]
    exact List.pairwise_singleton _ _
  · intro a p h h0 hpa hp ih _
    have hpl : p < m.length := by omega
    rw [ch_step hw h h0 hp hpl]
    refine List.pairwise_cons.2 ⟨fun x hx => ?_, ih hpl⟩
    obtain ⟨k, rfl, hk, _⟩ := ch_mem hw hpl x hx
    omega
theorem downL_asc (m : List EntM) (a : Int × Int) (r : Nat) : Asc (downL m a r) := by
  unfold downL
  split
  · exact List.pairwise_singleton _ _
  · exact List.Pairwise.nil
section
variable {m : List EntM} (hw : WFm m) (ho : OrdM m)
include hw ho
theorem fold_asc {n d : ByteArray} {a : Nat} (ha : a < m.length) (j : Int) : ∀ (l : List Int), (∀ x ∈ l, ∃ k : Nat, x = k ∧ k < m.length) → l.Pairwise (fun x y => x < y) → ∀ L, Asc L → (∀ p ∈ L, p = ((a : Int), j) ∨ ∀ x ∈ l, p.1 < x) → Asc (l.foldl (stepM m n d ((a : Int), j)) L)
  | [], _, _, _, h, _ => h
  | c :: l, hl, hp, L, hL, hlt => by
    obtain ⟨hp1, hp2⟩ := List.pairwise_cons.1 hp
    obtain ⟨k, rfl, hk⟩ := hl c (List.mem_cons_self ..)
    rw [List.foldl_cons]
    have keep : ∀ p ∈ L, p = ((a : Int), j) ∨ ∀ x ∈ l, p.1 < x := fun p hp => (hlt p hp).imp id fun h x hx => h x (List.mem_cons_of_mem _ hx)
    unfold stepM
    cases hown : ownM m n d (k : Int) with
    | none => exact fold_asc ha j l (fun x hx => hl x (List.mem_cons_of_mem _ hx)) hp2 L hL keep
    | some id =>
      simp only
      split
      · exact fold_asc ha j l (fun x hx => hl x (List.mem_cons_of_mem _ hx)) hp2 L hL keep
      · next hc =>
        split
        · have hid := (own_spec hown).1
          simp only [Bool.or_eq_true, beq_iff_eq, Bool.not_eq_true', not_or, Bool.not_eq_false] at hc
          have hka : (a : Int) < (k : Int) := by
            have h1 := ext_le hw ho hk ha hc.2
            have h2 := hc.1
            omega
          refine fold_asc ha j l (fun x hx => hl x (List.mem_cons_of_mem _ hx)) hp2 _ ?_ ?_
          · refine List.pairwise_append.2 ⟨hL, List.pairwise_singleton _ _, fun p hpL q hq => ?_⟩
            obtain rfl := List.mem_singleton.1 hq
            rw [hid]
            rcases hlt p hpL with rfl | h
            · exact hka
            · exact h _ (List.mem_cons_self ..)
          · intro p hp
            rcases List.mem_append.1 hp with hp | hp
            · exact keep p hp
            · obtain rfl := List.mem_singleton.1 hp
              exact .inr fun x hx => by rw [hid]; exact hp1 x hx
        · exact fold_asc ha j l (fun x hx => hl x (List.mem_cons_of_mem _ hx)) hp2 L hL keep
theorem down_asc (x : MethM) {a : Nat} (ha : a < m.length) (j : Int) {r : Nat} (hr : r < m.length) : Asc (downM m x ((a : Int), j) r) := by
  unfold downM
  split
  · exact List.Pairwise.nil
  split
  · exact fold_asc hw ho ha j _ (ch_nat hw hr) (List.pairwise_reverse.2 (ch_desc hw hr)) _ (downL_asc _ _ _) (fun p hp => .inl (downL_mem hp))
  · exact downL_asc _ _ _
/-- What stands above does as it does alone. -/
theorem down_above (x : MethM) {a : Nat} (ha : a < m.length) (j : Int) {r c : Nat} (hr : r < m.length) (hc : (c : Int) ∈ ch m r) : ofC c (downM m x ((a : Int), j) r) = ofC c (downM m x ((a : Int), j) c) := by
  obtain ⟨k, e, _, hcl, _⟩ := ch_mem hw hr _ hc
  obtain rfl : c = k := by omega
  obtain ⟨P, hP, hPx⟩ := ch_split hw ho hr c hc
  have hne : ∀ L, ofC c (P.reverse.foldl (stepM m x.name x.desc ((a : Int), j)) L) = ofC c L := fun L => fold_ofC _ (fun h => by
    obtain ⟨k, e, _, hk, _⟩ := hPx _ (List.mem_reverse.1 h)
    omega) L
  have hself := List.mem_of_getElem? (ch_head hw hcl)
  -- a below c, in the chain
  have low : (a : Int) ∈ ch m r → (a : Int) ∉ ch m c → isIfaceM m (a : Int) = false → downL m ((a : Int), j) c = [] ∧ (c : Int) ∈ ch m a ∧ (a : Int) ≠ c := by
    intro h1 h2 h3
    have hac : (a : Int) ≠ c := fun e => h2 (by rw [e]; exact hself)
    refine ⟨?_, ?_, hac⟩
    · unfold downL
      rw [h3, if_neg]
      simp [h2]
    · obtain ⟨Q, hQ, hQx⟩ := ch_split hw ho hr a h1
      rw [hQ] at hc
      rcases List.mem_append.1 hc with h | h
      · obtain ⟨k, e, hk, hka, hext⟩ := hQx _ h
        obtain rfl : c = k := by omega
        rcases (ext_iff hw ho hcl ha).1 hext with h | h
        · exact absurd h h2
        · obtain ⟨k', e', _, hif⟩ := clo_mem hw ho hcl _ h
          obtain rfl : a = k' := by omega
          unfold isIfaceM at h3
          rw [entAt_nat ha] at h3
          rw [clsAt_at ha] at hif
          simp only at h3
          rw [h3] at hif
          cases hif
      · exact h
  have key : ∀ L', downL m ((a : Int), j) r = L' → downL m ((a : Int), j) c = L' ∨ ((c : Int) ∈ ch m a ∧ (a : Int) ≠ c ∧ L' = [((a : Int), j)] ∧ downL m ((a : Int), j) c = []) := by
    rintro L' rfl
    by_cases h1 : isIfaceM m (a : Int) = true
    · left; unfold downL; rw [h1]; simp
    have h1' : isIfaceM m (a : Int) = false := by simpa using h1
    by_cases h2 : (a : Int) ∈ ch m c
    · left
      have h3 := ch_sub hw hr c hc _ h2
      unfold downL
      rw [if_pos (by simp [h2]), if_pos (by simp [h3])]
    · by_cases h3 : (a : Int) ∈ ch m r
      · right
        obtain ⟨e1, e2, e3⟩ := low h3 h2 h1'
        refine ⟨e2, e3, ?_, e1⟩
        unfold downL
        rw [if_pos (by simp [h3])]
      · left
        unfold downL
        rw [h1', if_neg (by simp [h2]), if_neg (by simp [h3])]
  unfold downM
  split
  · rfl
  split
  · rw [hP, List.reverse_append, List.foldl_append, hne]
    rcases key _ rfl with h | ⟨h1, h2, h3, h4⟩
    · rw [h]
    · rw [h3, h4, fold_nil, fold_above hw ho ha j _ (fun y hy => ch_sub hw ha c h1 _ (List.mem_reverse.1 hy))]
      unfold ofC
      simp [h2]
  · rcases key _ rfl with h | ⟨h1, h2, h3, h4⟩
    · rw [h]
    · rw [h3, h4]
      unfold ofC
      simp [h2]
end
end Go.Proofs.YtiiebakblkpkeaaGreatDoor.Hi
