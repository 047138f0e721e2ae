/- Overriding: the laws of First and All (plain). -/
import Derived.Test.YtiiebakblkpkeaaGreatDoorOs
set_option maxRecDepth 100000
set_option maxHeartbeats 1000000
set_option linter.unusedVariables false
set_option linter.unusedSimpArgs false
namespace Go.Proofs.YtiiebakblkpkeaaGreatDoor.Hi
open Go.RowKit Bs

/-- Those that override a, in the chain of r. -/
def firstL (m : List EntM) (x : MethM) (a : Int × Int) (r : Nat) : List (Int × Int) := (downM m x a r).filter fun p => (ch m r).contains p.1
def firstE (m : List EntM) (x : MethM) (a : Int × Int) (r : Nat) : (Int × Int) × Int := match (firstL m x a r).getLast? with
  | none => (((0 : Int), (0 : Int)), 6)
  | some q => (q, 0)

theorem ofC_iff {c : Nat} {L : List (Int × Int)} {p : Int × Int} : p ∈ ofC c L ↔ p ∈ L ∧ p.1 = (c : Int) := by
  unfold ofC
  rw [List.mem_filter]
  simp
theorem mem_all {m : List EntM} {x : MethM} {a p : Int × Int} : p ∈ allK m x a m.length ↔ ∃ c : Nat, c < m.length ∧ p ∈ downM m x a c ∧ p.1 = (c : Int) := by
  unfold allK
  rw [List.mem_flatMap]
  constructor
  · rintro ⟨c, hc, hp⟩
    exact ⟨c, List.mem_range.1 hc, ofC_iff.1 hp⟩
  · rintro ⟨c, hc, hp⟩
    exact ⟨c, List.mem_range.2 hc, ofC_iff.2 hp⟩
theorem allK_asc {m : List EntM} (hw : WFm m) (x : MethM) (a : Int × Int) : ∀ k, k ≤ m.length → Asc (allK m x a k) ∧ ∀ p ∈ allK m x a k, p.1 < (k : Int)
  | 0, _ => ⟨by unfold allK Asc; simp, by unfold allK; simp⟩
  | k + 1, h => by
    obtain ⟨h1, h2⟩ := allK_asc hw x a k (by omega)
    have h3 := down_top hw x a (r := k) (by omega)
    rw [allK_succ]
    refine ⟨List.pairwise_append.2 ⟨h1, ?_, fun p hp q hq => ?_⟩, fun p hp => ?_⟩
    · match hL : ofC k (downM m x a k), h3 with
      | [], _ => exact List.Pairwise.nil
      | [q], _ => exact List.pairwise_singleton _ _
      | q :: q' :: t, h3 => simp at h3
    · rw [(ofC_iff.1 hq).2]
      exact h2 p hp
    · rcases List.mem_append.1 hp with hp | hp
      · have := h2 p hp; omega
      · rw [(ofC_iff.1 hp).2]; omega
theorem last_asc {F : List (Int × Int)} (h : Asc F) {q : Int × Int} (hq : F.getLast? = some q) {p : Int × Int} (hp : p ∈ F) : p = q ∨ p.1 < q.1 := by
  obtain ⟨ys, rfl⟩ := List.getLast?_eq_some_iff.1 hq
  rcases List.mem_append.1 hp with hp | hp
  · exact .inr ((List.pairwise_append.1 h).2.2 p hp q (List.mem_singleton.2 rfl))
  · exact .inl (List.mem_singleton.1 hp)
theorem asc_same {F : List (Int × Int)} (h : Asc F) {p q : Int × Int} (hp : p ∈ F) (hq : q ∈ F) (e : p.1 = q.1) : p = q := by
  induction F with
  | nil => cases hp
  | cons z t ih =>
    obtain ⟨h1, h2⟩ := List.pairwise_cons.1 h
    rcases List.mem_cons.1 hp with e1 | hp'
    · rcases List.mem_cons.1 hq with e2 | hq'
      · rw [e1, e2]
      · have := h1 _ hq'
        rw [e1] at e
        omega
    · rcases List.mem_cons.1 hq with e2 | hq'
      · have := h1 _ hp'
        rw [e2] at e
        omega
      · exact ih h2 hp' hq'

theorem all_over {m : List EntM} {x : MethM} {a p : Int × Int} (hx : methAt m a = some x) (hp : p ∈ allK m x a m.length) : ovR m p a = (true, 0) := by
  obtain ⟨c, hc, h1, h2⟩ := mem_all.1 hp
  have hy : ∃ y, methAt m p = some y := by
    rcases (down_mem h1).2 with e | ⟨_, c', _, h3, _⟩
    · exact ⟨x, by rw [e]; exact hx⟩
    · obtain ⟨_, _, y, hy, _⟩ := own_spec h3
      exact ⟨y, hy⟩
  obtain ⟨y, hy⟩ := hy
  rw [ovR_ok hx hy]
  unfold ovM
  rw [h2, Int.toNat_natCast, List.contains_iff_mem.2 h1]
theorem all_self {m : List EntM} (hw : WFm m) {x : MethM} {a : Int × Int} (hx : methAt m a = some x) (hs : statF x.flags = false) : a ∈ allK m x a m.length := by
  obtain ⟨i, j, hi, _, rfl, _⟩ := methAt_some hx
  have h := ov_refl hw hx
  rw [hs] at h
  have h1 := ov_mem h
  exact mem_all.2 ⟨i, hi, by simpa using h1, rfl⟩
theorem all_priv {m : List EntM} (hw : WFm m) {x : MethM} {a : Int × Int} (hx : methAt m a = some x) (hs : statF x.flags = false) (hp : openM x.flags = 2) : allK m x a m.length = [a] := by
  have hseen : ∀ c : Int, seenM m c a = false := fun c => by
    unfold seenM flO
    rw [hx]
    simp [hp]
  have hfold : ∀ (l : List Int) (L : List (Int × Int)), (∀ p ∈ L, p = a) → l.foldl (stepM m x.name x.desc a) L = L := fun l => by
    induction l with
    | nil => intro L _; rfl
    | cons c l ih =>
      intro L hL
      have hs : stepM m x.name x.desc a L c = L := by
        unfold stepM
        split
        · rfl
        · split
          · rfl
          · rw [if_neg]
            intro h
            obtain ⟨q, hq1, hq2⟩ := List.any_eq_true.1 h
            rw [hL q hq1, hseen] at hq2
            cases hq2
      rw [List.foldl_cons, hs]
      exact ih L hL
  have hall : ∀ q ∈ allK m x a m.length, q = a := fun q hq => by
    obtain ⟨c, _, h1, _⟩ := mem_all.1 hq
    unfold downM at h1
    rw [hs] at h1
    simp only [Bool.false_eq_true, if_false] at h1
    split at h1
    · rw [hfold _ _ fun p hp => downL_mem hp] at h1
      exact downL_mem h1
    · exact downL_mem h1
  have ha := all_self hw hx hs
  have hA := (allK_asc hw x a m.length (Nat.le_refl _)).1
  match hL : allK m x a m.length with
  | [] => rw [hL] at ha; cases ha
  | [q] => rw [hall q (by rw [hL]; exact List.mem_singleton.2 rfl)]
  | q :: q' :: t =>
    rw [hL] at hA hall
    have e1 := hall q (List.mem_cons_self ..)
    have e2 := hall q' (List.mem_cons_of_mem _ (List.mem_cons_self ..))
    have := (List.pairwise_cons.1 hA).1 q' (List.mem_cons_self ..)
    rw [e1, e2] at this
    omega
section
variable {m : List EntM} (hw : WFm m) (ho : OrdM m)
include hw ho
theorem mem_first (x : MethM) {a : Nat} (ha : a < m.length) (j : Int) {r : Nat} (hr : r < m.length) {q : Int × Int} : q ∈ firstL m x ((a : Int), j) r ↔ q ∈ allK m x ((a : Int), j) m.length ∧ q.1 ∈ ch m r := by
  unfold firstL
  rw [List.mem_filter, List.contains_iff_mem, mem_all]
  constructor
  · rintro ⟨h1, h2⟩
    obtain ⟨c, e, _, hc, _⟩ := ch_mem hw hr _ h2
    refine ⟨⟨c, hc, ?_, e⟩, h2⟩
    rw [e] at h2
    have := ofC_iff.2 ⟨h1, e⟩
    rw [down_above hw ho x ha j hr h2] at this
    exact (ofC_iff.1 this).1
  · rintro ⟨⟨c, hc, h1, e⟩, h2⟩
    refine ⟨?_, h2⟩
    rw [e] at h2
    have := ofC_iff.2 ⟨h1, e⟩
    rw [← down_above hw ho x ha j hr h2] at this
    exact (ofC_iff.1 this).1
theorem first_near (x : MethM) {a : Nat} (ha : a < m.length) (j : Int) {r : Nat} (hr : r < m.length) {k : Nat} (hk : k < (ch m r).length) {p : Int × Int} (hp : p ∈ allK m x ((a : Int), j) m.length) (he : p.1 = (ch m r)[k]) (hn : ∀ k' (h : k' < (ch m r).length), k' < k → ∀ q ∈ allK m x ((a : Int), j) m.length, q.1 ≠ (ch m r)[k']) :
    firstE m x ((a : Int), j) r = (p, 0) := by
  have hpF := (mem_first hw ho x ha j hr).2 ⟨hp, by rw [he]; exact List.getElem_mem hk⟩
  have hA : Asc (firstL m x ((a : Int), j) r) := (down_asc hw ho x ha j hr).filter _
  unfold firstE
  cases hl : (firstL m x ((a : Int), j) r).getLast? with
  | none =>
    rw [List.getLast?_eq_none_iff] at hl
    rw [hl] at hpF
    cases hpF
  | some q =>
    have hqF : q ∈ firstL m x ((a : Int), j) r := List.mem_of_getLast? hl
    obtain ⟨hq1, hq2⟩ := (mem_first hw ho x ha j hr).1 hqF
    rcases last_asc hA hl hpF with e | hlt
    · rw [e]
    · exfalso
      obtain ⟨k2, hk2, e2⟩ := List.getElem_of_mem hq2
      by_cases hkk : k2 < k
      · exact hn k2 hk2 hkk q hq1 e2.symm
      · have hd := ch_desc hw hr
        rcases Nat.lt_or_ge k k2 with h | h
        · have := List.pairwise_iff_getElem.1 hd k k2 hk hk2 h
          rw [he, ← e2] at hlt
          omega
        · obtain rfl : k = k2 := by omega
          rw [he, ← e2] at hlt
          omega
theorem first_none (x : MethM) {a : Nat} (ha : a < m.length) (j : Int) {r : Nat} (hr : r < m.length) (hn : ∀ q ∈ allK m x ((a : Int), j) m.length, q.1 ∉ ch m r) :
    firstE m x ((a : Int), j) r = (((0 : Int), (0 : Int)), 6) := by
  unfold firstE
  have h0 : firstL m x ((a : Int), j) r = [] := List.eq_nil_iff_forall_not_mem.2 fun q hq => by
    obtain ⟨h1, h2⟩ := (mem_first hw ho x ha j hr).1 hq
    exact hn q h1 h2
  rw [h0]
  rfl
/-- What is open is overridden by whatever may. -/
theorem all_open {x y : MethM} {a : Int × Int} (hx : methAt m a = some x) (hs : statF x.flags = false) (hop : bits .and .i64 x.flags 5 ≠ 0) (hin : (x.name.toList == initN.toList) = false) (hif : isIfaceM m a.1 = false) {c : Nat} (hc : c < m.length) (hf : (findH m c x.name x.desc).2 = 0) (hci : isIfaceM m c = false) (he : extM m c a.1 = true) (hy : methAt m ((c : Int), (findH m c x.name x.desc).1) = some y) (hyf : bits .and .i64 y.flags 10 = 0) :
    ∃ p ∈ allK m x a m.length, p.1 = (c : Int) := by
  obtain ⟨i, j, hi, _, rfl, _⟩ := methAt_some hx
  by_cases hca : (c : Int) = (i : Int)
  · exact ⟨_, all_self hw hx hs, hca.symm⟩
  · have hys : statF y.flags = false := by unfold statF; rw [mask_zeroO (a := 10) (b := 8) (by decide) hyf]; rfl
    have hyp : privF y.flags = false := by unfold privF; rw [mask_zeroO (a := 10) (b := 2) (by decide) hyf]; rfl
    have hyn : y.name = x.name := by
      obtain ⟨b, hb, ek, hmq⟩ := findH_ok hc hf
      rw [ek, methAt_at hc hb] at hy
      rw [← Option.some.inj hy]
      exact (mEq_some hmq).1
    have hfree : freeX y = true := by unfold freeX; rw [hys, hyn, hin]; rfl
    have how : ownM m x.name x.desc (c : Int) = some ((c : Int), (findH m c x.name x.desc).1) := by
      unfold ownM
      rw [if_pos ⟨hf, hci⟩, hy]
      simp only
      rw [if_pos (by rw [hfree, hyp]; rfl)]
    have hfx : freeX x = true := by unfold freeX; rw [hs, hin]; rfl
    have hseen : seenM m (c : Int) ((i : Int), (j : Int)) = true := by
      unfold seenM flO
      simp only at hif
      rw [hx]
      simp only [hif]
      rcases open_pub hop with e | e <;> rw [e] <;> simp
    have hpl : plainM m ((c : Int), (findH m c x.name x.desc).1) ((i : Int), (j : Int)) x = true := by
      unfold plainM
      simp only at he ⊢
      rw [how, hfx, he, hseen]
      simp [hca]
    have := ov_mem (plain_ov hw ho hy hx hpl)
    exact ⟨_, mem_all.2 ⟨c, hc, by simpa using this, rfl⟩, rfl⟩
end
end Go.Proofs.YtiiebakblkpkeaaGreatDoor.Hi
