/- What a class that arrives later leaves of a table (plain). -/
import Derived.Test.YtipinmbpdgjalaaGreatDoorJn
import Derived.Test.YtipinmbpdgjalaaGreatDoorOj
set_option maxRecDepth 100000
set_option maxHeartbeats 1000000
set_option linter.unusedVariables false
set_option linter.unusedSimpArgs false
namespace Go.Proofs.YtipinmbpdgjalaaGreatDoor.Hi
open Go.RowKit Bs

theorem zip_congr {f g : Slt → Slt → Slt} : ∀ {A T : List Slt}, (∀ a ∈ A, ∀ s, f a s = g a s) → List.zipWith f A T = List.zipWith g A T
  | [], _, _ => by simp
  | _ :: _, [], _ => by simp
  | a :: A, t :: T, h => by
    rw [List.zipWith_cons_cons, List.zipWith_cons_cons, h a (List.mem_cons_self ..), zip_congr fun b hb => h b (List.mem_cons_of_mem _ hb)]
section
variable {m : List EntM} {e : EntM}
theorem methAt_appV {q : Int × Int} {y : MethM} (h : methAt m q = some y) : methAt (m ++ [e]) q = some y := by
  obtain ⟨i, j, hi, _, rfl, _⟩ := methAt_some h
  rw [methAt_app hi, h]
theorem alike_app {a b : Int × Int} {x y : MethM} (ha : methAt m a = some x) (hb : methAt m b = some y) : alikeB (m ++ [e]) a b = alikeB m a b := by
  unfold alikeB
  rw [ha, hb, methAt_appV ha, methAt_appV hb]
theorem ovR_app (hw : WFm m) {a b : Int × Int} {x y : MethM} (ha : methAt m a = some x) (hb : methAt m b = some y) : ovR (m ++ [e]) a b = ovR m a b := by
  unfold ovR
  rw [ha, hb, methAt_appV ha, methAt_appV hb]
  simp only
  obtain ⟨i, j, hi, _, rfl, _⟩ := methAt_some ha
  obtain ⟨k, l, hk, _, rfl, _⟩ := methAt_some hb
  rw [ov_app hw hk hi]
theorem hit_app (hw : WFm m) {q a : Int × Int} {x y : MethM} (hq : methAt m q = some x) (ha : methAt m a = some y) : hitB (m ++ [e]) q a = hitB m q a := by
  unfold hitB
  rw [alike_app hq ha, ovR_app hw hq ha]
theorem pub_app {q : Int × Int} {x : MethM} (hq : methAt m q = some x) : pubB (m ++ [e]) q = pubB m q := by
  unfold pubB
  rw [hq, methAt_appV hq]
theorem cls_appV {k : Nat} (hk : k < m.length) : clsAt (m ++ [e]) k = clsAt m k := by
  rw [clsAt_at hk, clsAt_at (by simp; omega)]
  simp only [List.getElem_append_left hk]
theorem own_appV {k : Nat} (hk : k < m.length) : ownV (m ++ [e]) k = ownV m k := by
  unfold ownV idsC
  rw [cls_appV hk]
  refine List.filter_congr fun q hq => ?_
  obtain ⟨i, _, rfl⟩ := List.mem_map.1 hq
  unfold virB
  simp only
  rw [ifaceO_app hk, methAt_app hk]
theorem step_appV (hw : WFm m) {A T : List Slt} (hA : InT m A) {q : Int × Int} {x : MethM} (hq : methAt m q = some x) : stepV (m ++ [e]) A T q = stepV m A T q := by
  have h1 : ∀ a ∈ A, hitB (m ++ [e]) q a.1 = hitB m q a.1 := fun a ha => by
    obtain ⟨y, hy⟩ := hA a ha
    exact hit_app hw hq hy
  have h2 : newB (m ++ [e]) A q = newB m A q := by
    unfold newB
    rw [pub_app hq]
    congr 2
    rw [Bool.eq_iff_iff, List.any_eq_true, List.any_eq_true]
    exact ⟨fun ⟨a, ha, h⟩ => ⟨a, ha, by rw [← h1 a ha]; exact h⟩, fun ⟨a, ha, h⟩ => ⟨a, ha, by rw [h1 a ha]; exact h⟩⟩
  have h3 : setS (m ++ [e]) q A T = setS m q A T := by
    unfold setS
    rw [zip_congr fun a ha s => by rw [h1 a ha]]
  unfold stepV
  rw [h2, h3]
theorem grow_app (hw : WFm m) {A : List Slt} (hA : InT m A) {k : Nat} (hk : k < m.length) : growM (m ++ [e]) k A = growM m k A := by
  unfold growM
  rw [own_appV hk]
  have key : ∀ (l : List (Int × Int)), (∀ q ∈ l, ∃ y, methAt m q = some y) → ∀ T, l.foldl (stepV (m ++ [e]) A) T = l.foldl (stepV m A) T := fun l => by
    induction l with
    | nil => intro _ T; rfl
    | cons q l ih =>
      intro h T
      obtain ⟨y, hy⟩ := h q (List.mem_cons_self ..)
      rw [List.foldl_cons, List.foldl_cons, step_appV hw hA hy]
      exact ih (fun q hq => h q (List.mem_cons_of_mem _ hq)) _
  exact key _ (fun q hq => by obtain ⟨_, _, y, hy, _⟩ := (mem_own hk).1 hq; exact ⟨y, hy⟩) A
theorem tab_app (hw : WFm m) {r : Nat} (hr : r < m.length) : tabM (m ++ [e]) r = tabM m r := by
  unfold tabM
  rw [ch_app hw hr]
  have key : ∀ (l : List Int), (∀ c ∈ l, ∃ k : Nat, c = k ∧ k < m.length) → ∀ T, InT m T → l.foldl (fun T c => growM (m ++ [e]) c.toNat T) T = l.foldl (fun T c => growM m c.toNat T) T := fun l => by
    induction l with
    | nil => intro _ T _; rfl
    | cons c l ih =>
      intro h T hT
      obtain ⟨k, rfl, hk⟩ := h c (List.mem_cons_self ..)
      rw [List.foldl_cons, List.foldl_cons, Int.toNat_natCast, grow_app hw hT hk]
      exact ih (fun c hc => h c (List.mem_cons_of_mem _ hc)) _ (grow_inT hk hT)
  refine key _ (fun c hc => ?_) [] (fun s hs => by cases hs)
  obtain ⟨k, e1, _, h, _⟩ := ch_mem hw hr _ (List.mem_reverse.1 hc)
  exact ⟨k, e1, h⟩
end
theorem tab_later {m : List EntM} (hw : WFm m) (c : ClsM) {r : Nat} (hr : r < m.length) : tabM (defM m c) r = tabM m r ∧ isIfaceM (defM m c) (r : Int) = isIfaceM m (r : Int) ∧ r < (defM m c).length := by
  rcases defM_cases m c with ⟨_, h, _⟩ | ⟨_, h, _⟩
  · rw [h]; exact ⟨tab_app hw hr, ifaceO_app hr, by simp; omega⟩
  · rw [h]; exact ⟨rfl, rfl, hr⟩
theorem bld_later {m : List EntM} (hw : WFm m) (c : ClsM) {r : Nat} (hr : r < m.length) (hif : isIfaceM m (r : Int) = false) : bldM (defM m c) (r : Int) = (tabM m r, 0) := by
  obtain ⟨h1, h2, h3⟩ := tab_later hw c hr
  rw [bld_ok h3 (by rw [h2]; exact hif), h1]
theorem mlA_later {m : List EntM} (h : MlA m) (c : ClsM) : MlA (defM m c) := mlA_step h c

section
variable {m : List EntM} (hw : WFm m) (ho : OrdM m)
include hw ho
theorem superM_cases {c : Nat} (hc : c < m.length) : superM m (c : Int) = (0, 6) ∨ ∃ q : Nat, superM m (c : Int) = ((q : Int), 0) := by
  rcases Nat.eq_zero_or_pos c with rfl | h0
  · exact .inl (super_zero hw ho)
  · obtain ⟨p, h1, h2, hp, _⟩ := par hw hc h0
    refine .inr ⟨p, ?_⟩
    unfold superM
    rw [entAt_nat hc]
    simp only
    rw [if_neg (by omega), h2]
/-- What the law of growing tables tells of a class. -/
theorem grow_law {c : Nat} (hc : c < m.length) (hif : isIfaceM m (c : Int) = false) :
    (∀ q : Nat, superM m (c : Int) = ((q : Int), 0) → ∃ (hq : q < m.length), isIfaceM m (q : Int) = false ∧ (tabM m q).length ≤ (tabM m c).length ∧ ∀ i (h : i < (tabM m q).length) (h' : i < (tabM m c).length), (tabM m q)[i].1 = (tabM m c)[i].1) ∧
    (∀ i (h : i < (tabM m c).length), ovR m (tabM m c)[i].2 (tabM m c)[i].1 = (true, 0) ∧ extM m c (tabM m c)[i].2.1 = true) ∧
    (∀ i j (h : i < (tabM m c).length) (h' : j < (tabM m c).length), j < i → (tabM m c)[i].1 ≠ (tabM m c)[j].1) := by
  have hT := tab_ok hw ho hc
  refine ⟨fun q hq => ?_, fun i h => ?_, fun i j h h' hji => ?_⟩
  · have h0 : 0 < c := by
      rcases Nat.eq_zero_or_pos c with rfl | h
      · rw [super_zero hw ho] at hq
        injection hq with _ hq
        cases hq
      · exact h
    obtain ⟨p, h1, h2, hp, _⟩ := par hw hc h0
    have hpq : q = p := by
      unfold superM at hq
      rw [entAt_nat hc] at hq
      simp only at hq
      rw [if_neg (by omega)] at hq
      injection hq with hq _
      omega
    subst hpq
    have hi := (ho.sup c hc h0).1
    rw [h2, Int.toNat_natCast] at hi
    obtain ⟨t, ht⟩ := tab_roots hw ho hc h0 h2 hp
    have hl : (tabM m q).length ≤ (tabM m c).length := by
      have := congrArg List.length ht
      rw [List.length_append, List.length_map, List.length_map] at this
      omega
    refine ⟨hp, by rw [clsAt_at hp] at hi; unfold isIfaceM; rw [entAt_nat hp]; exact hi, hl, fun i h h' => ?_⟩
    have e1 : ((tabM m c).map (·.1))[i]? = some (tabM m c)[i].1 := by rw [List.getElem?_map, List.getElem?_eq_getElem h']; rfl
    rw [ht, List.getElem?_append_left (by simpa using h), List.getElem?_map, List.getElem?_eq_getElem h] at e1
    simpa using e1
  · refine ⟨hT.over _ (List.getElem_mem h), ?_⟩
    obtain ⟨b, hb, hbc, hown⟩ := hT.meth _ (List.getElem_mem h)
    rw [((mem_own hb).1 hown).1]
    exact (ext_iff hw ho hc hb).2 (.inl hbc)
  · have h1 := List.pairwise_iff_getElem.1 hT.one j i (by simpa using h') (by simpa using h) hji
    simp only [List.getElem_map] at h1
    exact fun e => h1 e.symm
end
end Go.Proofs.YtipinmbpdgjalaaGreatDoor.Hi
