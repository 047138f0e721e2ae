/- Overriding: the plain law. -/
import Derived.Test.YtipinmbpdgjalaaGreatDoorFd
import Derived.Test.YtipinmbpdgjalaaGreatDoorRc
import Derived.Test.YtipinmbpdgjalaaGreatDoorMK
import Derived.RangeFuncNested
import Derived.RangeFuncBound
import Derived.RangeFuncCalls
import Derived.RangeFuncLeaves
import Derived.Shelf.Abstract
import Derived.Shelf.RegionOpen
import Derived.WalkKit
import Derived.OwnWalkIn
import Derived.TacticsInMore
import Derived.LoopNIn
import Derived.LoopIn
import Derived.Lib.Hide
import Derived.Test.YtipinmbpdgjalaaGreatDoorMM
import Derived.Deep.RegionHeld3
import Derived.Deep.DrawnRows
import Derived.Deep.DeepCutAuto
import Derived.Deep.CutRange
import Derived.Lib.QuietBelow
set_option maxRecDepth 100000
set_option linter.unusedVariables false
set_option linter.unusedSimpArgs false
namespace Go.Proofs.YtipinmbpdgjalaaGreatDoor.Hi
open Go.RowKit Bs

def statF (f : Int) : Bool := bits .and .i64 f 8 != 0
def privF (f : Int) : Bool := bits .and .i64 f 2 != 0
def initN : ByteArray := ⟨#[60, 105, 110, 105, 116, 62]⟩
def freeX (x : MethM) : Bool := !statF x.flags && !(x.name.toList == initN.toList)
/-- A method by its place. -/
def methAt (m : List EntM) (p : Int × Int) : Option MethM := match entAt m p.1 with
  | none => none
  | some e => if 0 ≤ p.2 then e.c.meths[p.2.toNat]? else none
def flO (m : List EntM) (p : Int × Int) : Int := match methAt m p with
  | none => 0
  | some x => x.flags
def seenM (m : List EntM) (c : Int) (b : Int × Int) : Bool := if isIfaceM m b.1 = true then openM (flO m b) != 2 else (openM (flO m b) == 1 || (openM (flO m b) == 4 || (openM (flO m b) == 0 && sameM m c b.1)))
/-- A class's own method of a name, if it may override. -/
def ownM (m : List EntM) (n d : ByteArray) (c : Int) : Option (Int × Int) :=
  if (findH m c n d).2 = 0 ∧ isIfaceM m c = false then (match methAt m (c, (findH m c n d).1) with
    | none => none
    | some x => if (freeX x && !privF x.flags) = true then some (c, (findH m c n d).1) else none)
  else none
def stepM (m : List EntM) (n d : ByteArray) (a : Int × Int) (L : List (Int × Int)) (c : Int) : List (Int × Int) := match ownM m n d c with
  | none => L
  | some id => if (c == a.1 || !extM m c a.1) = true then L else if L.any (seenM m c) = true then L ++ [id] else L
def downL (m : List EntM) (a : Int × Int) (r : Nat) : List (Int × Int) := if ((ch m r).contains a.1 || isIfaceM m a.1) = true then [a] else []
/-- All that override a, in a chain. -/
def downM (m : List EntM) (x : MethM) (a : Int × Int) (r : Nat) : List (Int × Int) :=
  if statF x.flags = true then [] else if freeX x = true then (ch m r).reverse.foldl (stepM m x.name x.desc a) (downL m a r) else downL m a r
/-- Does c override a, whose method is x? -/
def ovM (m : List EntM) (c a : Int × Int) (x : MethM) : Bool := (downM m x a c.1.toNat).contains c
def plainM (m : List EntM) (c a : Int × Int) (x : MethM) : Bool := (ownM m x.name x.desc c.1 == some c) && freeX x && (c.1 != a.1) && extM m c.1 a.1 && seenM m c.1 a

/-- Does c override a? The error. -/
def ovR (m : List EntM) (c a : Int × Int) : Bool × Int := match methAt m a, methAt m c with
  | some x, some _ => (ovM m c a x, 0)
  | _, _ => (false, 3)
def plR (m : List EntM) (c a : Int × Int) : Bool × Int := match methAt m a, methAt m c with
  | some x, some _ => (plainM m c a x, 0)
  | _, _ => (false, 3)
theorem methAt_some {m : List EntM} {p : Int × Int} {x : MethM} (h : methAt m p = some x) : ∃ (i j : Nat) (hi : i < m.length) (hj : j < m[i].c.meths.length), p = ((i : Int), (j : Int)) ∧ m[i].c.meths[j] = x := by
  unfold methAt at h
  cases he : entAt m p.1 with
  | none => rw [he] at h; cases h
  | some e =>
    rw [he] at h
    obtain ⟨i, e1, hi, e2⟩ := entAt_some he
    simp only at h
    split at h
    · next h0 =>
      obtain ⟨hj, e3⟩ := List.getElem?_eq_some_iff.1 h
      refine ⟨i, p.2.toNat, hi, by rw [e2]; exact hj, ?_, by simp only [e2]; exact e3⟩
      apply Prod.ext
      · exact e1
      · show p.2 = ((p.2.toNat : Nat) : Int)
        omega
    · cases h
theorem mEq_some {n d : ByteArray} {x : MethM} (h : Pr.mEq n d x = true) : x.name = n ∧ x.desc = d := by
  unfold Pr.mEq at h
  rw [str_eq, str_eq, Bool.and_eq_true, decide_eq_true_iff, decide_eq_true_iff] at h
  exact h
theorem own_spec {m : List EntM} {n d : ByteArray} {c : Int} {id : Int × Int} (h : ownM m n d c = some id) : id.1 = c ∧ isIfaceM m c = false ∧ ∃ x, methAt m id = some x ∧ x.name = n ∧ x.desc = d ∧ freeX x = true := by
  unfold ownM at h
  split at h
  · next hc =>
    cases hm : methAt m (c, (findH m c n d).1) with
    | none => rw [hm] at h; cases h
    | some x =>
      rw [hm] at h
      simp only at h
      split at h
      · next hf =>
        have hid : (c, (findH m c n d).1) = id := Option.some.inj h
        rw [Bool.and_eq_true] at hf
        refine ⟨by rw [← hid], hc.2, x, by rw [← hid]; exact hm, ?_⟩
        have hx : Pr.mEq n d x = true := by
          have h1 := hc.1
          unfold findH at hm h1
          unfold methAt at hm
          cases he : entAt m c with
          | none => rw [he] at h1; simp at h1
          | some e =>
            simp only [he] at h1 hm
            by_cases hn : Pr.findM e.c.meths n d < 0
            · rw [if_pos hn] at h1; simp at h1
            · rw [if_neg hn] at hm
              unfold Pr.findM at hm hn
              cases hfi : e.c.meths.findIdx? (Pr.mEq n d) with
              | none => rw [hfi] at hn; simp at hn
              | some i =>
                simp only [hfi] at hm
                rw [if_pos (by omega)] at hm
                obtain ⟨hi, h2, _⟩ := List.findIdx?_eq_some_iff_getElem.1 hfi
                have hm' : e.c.meths[i]? = some x := by simpa using hm
                rw [List.getElem?_eq_getElem hi] at hm'
                rw [← Option.some.inj hm']
                exact h2
        exact ⟨(mEq_some hx).1, (mEq_some hx).2, hf.1⟩
      · cases h
  · cases h

theorem step_sub {m : List EntM} {n d : ByteArray} {a : Int × Int} {L : List (Int × Int)} (c : Int) {id : Int × Int} (h : id ∈ L) : id ∈ stepM m n d a L c := by
  unfold stepM
  split
  · exact h
  · split
    · exact h
    · split
      · exact List.mem_append_left _ h
      · exact h
theorem fold_sub {m : List EntM} {n d : ByteArray} {a : Int × Int} : ∀ (l : List Int) {L : List (Int × Int)} {id : Int × Int}, id ∈ L → id ∈ l.foldl (stepM m n d a) L
  | [], _, _, h => h
  | c :: l, L, id, h => fold_sub l (step_sub c h)
theorem fold_nil {m : List EntM} {n d : ByteArray} {a : Int × Int} : ∀ (l : List Int), l.foldl (stepM m n d a) [] = []
  | [] => rfl
  | c :: l => by
    have : stepM m n d a [] c = [] := by
      unfold stepM
      split
      · rfl
      · split
        · rfl
        · rfl
    rw [List.foldl_cons, this]
    exact fold_nil l
theorem fold_mem {m : List EntM} {n d : ByteArray} {a : Int × Int} : ∀ (l : List Int) {L : List (Int × Int)} {id : Int × Int}, id ∈ l.foldl (stepM m n d a) L → id ∈ L ∨ ∃ c ∈ l, ownM m n d c = some id ∧ c ≠ a.1 ∧ extM m c a.1 = true
  | [], _, _, h => .inl h
  | c :: l, L, id, h => by
    rcases fold_mem l h with h1 | ⟨c', h1, h2⟩
    · unfold stepM at h1
      cases ho : ownM m n d c with
      | none => rw [ho] at h1; exact .inl h1
      | some i =>
        rw [ho] at h1
        simp only at h1
        split at h1
        · exact .inl h1
        · next hc =>
          split at h1
          · rcases List.mem_append.1 h1 with h1 | h1
            · exact .inl h1
            · obtain rfl := List.mem_singleton.1 h1
              simp at hc
              exact .inr ⟨c, List.mem_cons_self .., ho, hc.1, hc.2⟩
          · exact .inl h1
    · exact .inr ⟨c', List.mem_cons_of_mem _ h1, h2⟩
theorem downL_mem {m : List EntM} {a id : Int × Int} {r : Nat} (h : id ∈ downL m a r) : id = a := by
  unfold downL at h
  split at h
  · exact List.mem_singleton.1 h
  · cases h
theorem down_mem {m : List EntM} {x : MethM} {a id : Int × Int} {r : Nat} (h : id ∈ downM m x a r) : statF x.flags = false ∧ (id = a ∨ (freeX x = true ∧ ∃ c ∈ ch m r, ownM m x.name x.desc c = some id ∧ c ≠ a.1 ∧ extM m c a.1 = true)) := by
  unfold downM at h
  cases hs : statF x.flags with
  | true => rw [hs] at h; simp at h
  | false =>
    rw [hs] at h
    refine ⟨rfl, ?_⟩
    simp only [Bool.false_eq_true, if_false] at h
    cases hf : freeX x with
    | true =>
      rw [hf] at h
      simp only [if_true] at h
      rcases fold_mem _ h with h1 | ⟨c, h1, h2⟩
      · exact .inl (downL_mem h1)
      · exact .inr ⟨rfl, c, List.mem_reverse.1 h1, h2⟩
    | false =>
      rw [hf] at h
      simp only [Bool.false_eq_true, if_false] at h
      exact .inl (downL_mem h)
theorem ov_mem {m : List EntM} {c a : Int × Int} {x : MethM} (h : ovM m c a x = true) : c ∈ downM m x a c.1.toNat := by
  unfold ovM at h
  exact List.contains_iff_mem.1 h
/-- What overrides another one. -/
theorem ov_over {m : List EntM} {c a : Int × Int} {x : MethM} (h : ovM m c a x = true) : statF x.flags = false ∧ (c = a ∨ (freeX x = true ∧ ownM m x.name x.desc c.1 = some c ∧ c.1 ≠ a.1 ∧ extM m c.1 a.1 = true)) := by
  obtain ⟨h1, h2⟩ := down_mem (ov_mem h)
  refine ⟨h1, h2.imp id ?_⟩
  rintro ⟨h3, c', _, h4, h5⟩
  have := (own_spec h4).1
  subst this
  exact ⟨h3, h4, h5⟩

/-- What is taken for one is taken for another one that it overrides. -/
theorem fold_two {m : List EntM} {n d : ByteArray} {b c : Int × Int} : ∀ (l : List Int), (∀ x ∈ l, x ≠ c.1 ∧ extM m x c.1 = true) → ∀ {L L' : List (Int × Int)}, (∀ i ∈ L, i ∈ L') → ∀ i ∈ l.foldl (stepM m n d b) L, i ∈ l.foldl (stepM m n d c) L'
  | [], _, _, _, h => h
  | x :: l, hl, L, L', h => by
    rw [List.foldl_cons, List.foldl_cons]
    refine fold_two l (fun y hy => hl y (List.mem_cons_of_mem _ hy)) fun i hi => ?_
    unfold stepM at hi ⊢
    cases ho : ownM m n d x with
    | none => rw [ho] at hi; exact h i hi
    | some id =>
      rw [ho] at hi
      simp only at hi ⊢
      obtain ⟨h1, h2⟩ := hl x (List.mem_cons_self ..)
      rw [if_neg (by simp [h1, h2])]
      split at hi
      · split
        · exact List.mem_append_left _ (h i hi)
        · exact h i hi
      · split at hi
        · next hany =>
          obtain ⟨y, hy1, hy2⟩ := List.any_eq_true.1 hany
          rw [if_pos (List.any_eq_true.2 ⟨y, h y hy1, hy2⟩)]
          rcases List.mem_append.1 hi with hi | hi
          · exact List.mem_append_left _ (h i hi)
          · exact List.mem_append_right _ hi
        · split
          · exact List.mem_append_left _ (h i hi)
          · exact h i hi
theorem downL_own {m : List EntM} (hw : WFm m) {i : Nat} (hi : i < m.length) (j : Int) : downL m ((i : Int), j) i = [((i : Int), j)] := by
  unfold downL
  rw [if_pos]
  rw [Bool.or_eq_true]
  exact .inl (List.contains_iff_mem.2 (List.mem_of_getElem? (ch_head hw hi)))
theorem ov_refl {m : List EntM} (hw : WFm m) {a : Int × Int} {x : MethM} (hx : methAt m a = some x) : ovM m a a x = !statF x.flags := by
  obtain ⟨i, j, hi, _, rfl, _⟩ := methAt_some hx
  unfold ovM downM
  cases hs : statF x.flags with
  | true => rfl
  | false =>
    simp only [Bool.false_eq_true, if_false, Int.toNat_natCast, Bool.not_false, downL_own hw hi]
    rw [List.contains_iff_mem]
    split
    · exact fold_sub _ (List.mem_singleton.2 rfl)
    · exact List.mem_singleton.2 rfl
section
variable {m : List EntM} (hw : WFm m) (ho : OrdM m)
include hw ho
theorem ov_names {c a : Int × Int} {x y : MethM} (h : ovM m c a x = true) (hx : methAt m a = some x) (hy : methAt m c = some y) : y.name = x.name ∧ y.desc = x.desc ∧ extM m c.1 a.1 = true := by
  rcases (ov_over h).2 with rfl | ⟨_, h1, _, h2⟩
  · rw [hx] at hy
    obtain rfl := Option.some.inj hy
    obtain ⟨i, j, hi, _, rfl, _⟩ := methAt_some hx
    exact ⟨rfl, rfl, ext_refl hw ho hi⟩
  · obtain ⟨_, _, z, h3, h4, h5, _⟩ := own_spec h1
    rw [hy] at h3
    obtain rfl := Option.some.inj h3
    exact ⟨h4, h5, h2⟩
theorem ov_anti {c a : Int × Int} {x y : MethM} (hx : methAt m a = some x) (hy : methAt m c = some y) (h : ovM m c a x = true) (h' : ovM m a c y = true) : c = a := by
  rcases (ov_over h).2 with e | ⟨_, _, h1, h2⟩
  · exact e
  rcases (ov_over h').2 with e | ⟨_, _, h3, h4⟩
  · exact e.symm
  obtain ⟨i, j, hi, _, rfl, _⟩ := methAt_some hx
  obtain ⟨k, l, hk, _, rfl, _⟩ := methAt_some hy
  have := ext_anti hw ho hk hi h2 (fun e => h1 (by simp [e]))
  rw [h4] at this
  cases this
/-- A chain up to a class, and that class's own. -/
theorem ch_split {a : Nat} (h : a < m.length) : ∀ b : Nat, (b : Int) ∈ ch m a → ∃ P, ch m a = P ++ ch m b ∧ ∀ x ∈ P, ∃ k : Nat, x = k ∧ k < m.length ∧ k ≠ b ∧ extM m k b = true := by
  refine ch_ind hw (P := fun a => ∀ h : a < m.length, ∀ b : Nat, (b : Int) ∈ ch m a → ∃ P, ch m a = P ++ ch m b ∧ ∀ x ∈ P, ∃ k : Nat, x = k ∧ k < m.length ∧ k ≠ b ∧ extM m k b = true) ?_ ?_ a h h
  · intro h b hb
    rw [ch_zero hw h] at hb
    obtain rfl : b = 0 := by have := List.mem_singleton.1 hb; omega
    exact ⟨[], rfl, fun x hx => by cases hx⟩
  · intro a p h h0 hpa hp ih _ b hb
    have hs := ch_step hw h h0 hp (by omega)
    by_cases hab : a = b
    · subst hab
      exact ⟨[], rfl, fun x hx => by cases hx⟩
    · have hb' : (b : Int) ∈ ch m p := by
        rw [hs] at hb
        rcases List.mem_cons.1 hb with e | e
        · exact absurd (by omega) hab
        · exact e
      obtain ⟨P, e1, e2⟩ := ih (by omega) b hb'
      refine ⟨(a : Int) :: P, by rw [hs, e1]; rfl, fun x hx => ?_⟩
      rcases List.mem_cons.1 hx with rfl | hx
      · obtain ⟨k, e3, _, hk, _⟩ := ch_mem hw h _ hb
        obtain rfl : b = k := by omega
        exact ⟨a, rfl, h, hab, (ext_iff hw ho h hk).2 (.inl hb)⟩
      · exact e2 x hx
theorem iface_clo {a b : Nat} (ha : a < m.length) (hb : b < m.length) (h : extM m a b = true) (hi : isIfaceM m (b : Int) = false) : (b : Int) ∈ ch m a := by
  rcases (ext_iff hw ho ha hb).1 h with h | h
  · exact h
  · obtain ⟨k, e1, _, e2⟩ := clo_mem hw ho ha _ h
    obtain rfl : b = k := by omega
    unfold isIfaceM at hi
    rw [entAt_nat hb] at hi
    rw [clsAt_at hb] at e2
    simp only at hi
    rw [e2] at hi
    cases hi
/-- Nothing above a class, and not itself, is taken where the class itself is asked. -/
theorem fold_above {n d : ByteArray} {b : Nat} (hb : b < m.length) (j : Int) : ∀ (l : List Int), (∀ x ∈ l, x ∈ ch m b) → ∀ L, l.foldl (stepM m n d ((b : Int), j)) L = L
  | [], _, _ => rfl
  | c :: l, h, L => by
    have hs : stepM m n d ((b : Int), j) L c = L := by
      unfold stepM
      split
      · rfl
      · rw [if_pos]
        obtain ⟨k, rfl, _, hk, _⟩ := ch_mem hw hb c (h c (List.mem_cons_self ..))
        by_cases e : k = b
        · simp [e]
        · have := ext_anti hw ho hb hk ((ext_iff hw ho hb hk).2 (.inl (h _ (List.mem_cons_self ..)))) (fun e' => e e'.symm)
          simp [this]
    rw [List.foldl_cons, hs]
    exact fold_above hb j l (fun x hx => h x (List.mem_cons_of_mem _ hx)) L
theorem ov_trans {a b c : Int × Int} {x y z : MethM} (hx : methAt m a = some x) (hy : methAt m b = some y) (hz : methAt m c = some z) (h1 : ovM m a b y = true) (h2 : ovM m b c z = true) : ovM m a c z = true := by
  obtain ⟨hs1, h1'⟩ := ov_over h1
  obtain ⟨hs2, h2'⟩ := ov_over h2
  rcases h1' with rfl | ⟨hf1, ho1, hn1, he1⟩
  · exact h2
  rcases h2' with rfl | ⟨hf2, ho2, hn2, he2⟩
  · rw [hy] at hz
    obtain rfl := Option.some.inj hz
    exact h1
  obtain ⟨hn, hd, _⟩ := ov_names hw ho h2 hz hy
  have m1 := ov_mem h1
  have m2 := ov_mem h2
  have hib := (own_spec ho2).2.1
  obtain ⟨i, j, hi, _, rfl, _⟩ := methAt_some hx
  obtain ⟨k, l, hk, _, rfl, _⟩ := methAt_some hy
  obtain ⟨p, q, hp, _, rfl, _⟩ := methAt_some hz
  simp only [Int.toNat_natCast] at m1 m2 hn1 hn2 he1 he2 hib
  have hch := iface_clo hw ho hi hk he1 hib
  obtain ⟨P, hP, hPx⟩ := ch_split hw ho hi k hch
  unfold downM at m1 m2
  rw [hs1, hf1] at m1
  rw [hs2, hf2] at m2
  simp only [Bool.false_eq_true, if_false, if_true] at m1 m2
  have hL1 : downL m ((k : Int), (l : Int)) i = [((k : Int), (l : Int))] := by
    unfold downL
    rw [if_pos]
    rw [Bool.or_eq_true]
    exact .inl (List.contains_iff_mem.2 hch)
  rw [hL1, hP, List.reverse_append, List.foldl_append, fold_above hw ho hk _ _ (fun x hx => List.mem_reverse.1 hx), hn, hd] at m1
  have hL2 : downL m ((p : Int), (q : Int)) i = downL m ((p : Int), (q : Int)) k := by
    unfold downL
    cases hc : ((ch m k).contains ((p : Int), (q : Int)).1 || isIfaceM m ((p : Int), (q : Int)).1) with
    | true =>
      rw [if_pos rfl, if_pos]
      rw [Bool.or_eq_true] at hc ⊢
      refine hc.imp (fun h => ?_) id
      exact List.contains_iff_mem.2 (ch_sub hw hi k hch _ (List.contains_iff_mem.1 h))
    | false =>
      have : downL m ((p : Int), (q : Int)) k = [] := by
        unfold downL
        rw [hc]
        rfl
      rw [this, fold_nil] at m2
      cases m2
  unfold ovM downM
  rw [List.contains_iff_mem, hs2, hf2]
  simp only [Bool.false_eq_true, if_false, if_true, Int.toNat_natCast]
  rw [hL2, hP, List.reverse_append, List.foldl_append]
  refine fold_two P.reverse (fun x hx => ?_) (fun i hi => ?_) _ m1
  · obtain ⟨r, rfl, hr, hrk, hrx⟩ := hPx x (List.mem_reverse.1 hx)
    have ht := ext_trans hw ho hr hk hp hrx he2
    refine ⟨fun e => ?_, ht⟩
    have e' : (r : Int) = (p : Int) := e
    obtain rfl : r = p := by omega
    have := ext_anti hw ho hr hk hrx hrk
    rw [he2] at this
    cases this
  · obtain rfl := List.mem_singleton.1 hi
    exact m2
theorem plain_ov {a b : Int × Int} {x y : MethM} (hx : methAt m a = some x) (hy : methAt m b = some y) (h : plainM m a b y = true) : ovM m a b y = true := by
  obtain ⟨i, j, hi, _, rfl, _⟩ := methAt_some hx
  obtain ⟨k, l, hk, _, rfl, _⟩ := methAt_some hy
  unfold plainM at h
  simp only [Bool.and_eq_true, beq_iff_eq, bne_iff_ne] at h
  obtain ⟨⟨⟨⟨h1, h2⟩, h3⟩, h4⟩, h5⟩ := h
  have hs : statF y.flags = false := by
    unfold freeX at h2
    cases hs : statF y.flags with
    | true => rw [hs] at h2; simp at h2
    | false => rfl
  have hL : downL m ((k : Int), (l : Int)) i = [((k : Int), (l : Int))] := by
    unfold downL
    rw [if_pos]
    rw [Bool.or_eq_true]
    rcases (ext_iff hw ho hi hk).1 h4 with h | h
    · exact .inl (List.contains_iff_mem.2 h)
    · obtain ⟨k', e1, _, e2⟩ := clo_mem hw ho hi _ h
      obtain rfl : k = k' := by omega
      refine .inr ?_
      unfold isIfaceM
      rw [entAt_nat hk]
      rw [clsAt_at hk] at e2
      exact e2
  unfold ovM downM
  rw [List.contains_iff_mem, hs, h2]
  simp only [Bool.false_eq_true, if_false, if_true, Int.toNat_natCast]
  rw [hL]
  have hh := ch_head hw hi
  obtain ⟨r, hr⟩ : ∃ r, ch m i = (i : Int) :: r := by
    cases hc : ch m i with
    | nil => rw [hc] at hh; cases hh
    | cons c r =>
      rw [hc] at hh
      exact ⟨r, by rw [Option.some.inj hh]⟩
  rw [hr, List.reverse_cons, List.foldl_append, List.foldl_cons, List.foldl_nil]
  generalize hG : r.reverse.foldl (stepM m y.name y.desc ((k : Int), (l : Int))) [((k : Int), (l : Int))] = G
  have hG' : ((k : Int), (l : Int)) ∈ G := by rw [← hG]; exact fold_sub _ (List.mem_singleton.2 rfl)
  unfold stepM
  rw [h1]
  simp only
  rw [if_neg (by simp only [Bool.or_eq_true, beq_iff_eq, Bool.not_eq_true']; rintro (e | e); exact h3 e; rw [h4] at e; cases e), if_pos (List.any_eq_true.2 ⟨_, hG', h5⟩)]
  exact List.mem_append_right _ (List.mem_singleton.2 rfl)
end
end Go.Proofs.YtipinmbpdgjalaaGreatDoor.Hi
/- A method of a class that is none. -/
set_option maxRecDepth 100000
set_option maxHeartbeats 1000000
set_option linter.unusedVariables false
set_option linter.unusedSimpArgs false
namespace Go.Proofs.YtipinmbpdgjalaaGreatDoor.Hi
open Go.RowKit Bs

theorem Method_far {S : Nat → Prop} {bw : Nat} {w : World} {m : List EntM} (h : HW S bw w m) (hS : ∀ k, S k → k < w.heap.size) {a b : Int} (he : entAt m a = none) :
    Calls Tryz.prog 28 #[.pointer (some ⟨bw, 0, none⟩), .agg #[.int .i64 a, .int .i64 b]] w fun r w' => r = .returned (.tuple #[zeroMeth, .int .i64 3]) ∧ Below w.heap.size w w' := by
  obtain ⟨wa, hwa⟩ : ∃ wa, wa = (w.alloc (.cells #[.int .i64 a, .int .i64 b] 38)).alloc (.cells #[Value.string ⟨#[]⟩, .string ⟨#[]⟩, .int .i64 0, .int .i64 0, .int .i64 0, .slice none 0 0] 55) := ⟨_, rfl⟩
  have hba : Below w.heap.size w wa := by rw [hwa]; exact ((Below.refl _ _).alloc (Nat.le_refl _) _).alloc (by simp) _
  have hza : wa.heap.size = w.heap.size + 2 := by rw [hwa]; simp
  have i0 : wa.cell? ⟨w.heap.size, 0, none⟩ = some (.int .i64 a) := by rw [hwa]; exact alloc_old (World.cell?_alloc_new ..)
  have i1 : wa.cell? ⟨w.heap.size, 1, none⟩ = some (.int .i64 b) := by rw [hwa]; exact alloc_old (World.cell?_alloc_new ..)
  have r0 : ∀ j v, (#[Value.string ⟨#[]⟩, .string ⟨#[]⟩, .int .i64 0, .int .i64 0, .int .i64 0, .slice none 0 0])[j]? = some v → wa.cell? ⟨w.heap.size + 1, j, none⟩ = some v := fun j v hv => by
    rw [hwa]
    have := World.cell?_alloc_new (w.alloc (.cells #[.int .i64 a, .int .i64 b] 38)) #[Value.string ⟨#[]⟩, .string ⟨#[]⟩, .int .i64 0, .int .i64 0, .int .i64 0, .slice none 0 0] 55 j
    rw [World.size_alloc] at this
    exact this.trans hv
  have f0 : ∀ j, wa.frozen? ⟨w.heap.size + 1, j, none⟩ = false := fun j => by
    rw [hwa]
    have := frozen_new (w.alloc (.cells #[.int .i64 a, .int .i64 b] 38)) #[Value.string ⟨#[]⟩, .string ⟨#[]⟩, .int .i64 0, .int .i64 0, .int .i64 0, .slice none 0 0] 55 j
    rw [World.size_alloc] at this
    exact this
  have h' := h.alike hba.size (Alike.of_below hba hS)
  have hS' : ∀ k, S k → k < wa.heap.size := fun k hk => Nat.lt_of_lt_of_le (hS k hk) hba.size
  have HC := Lib.hid (at_out h' he)
  have HR := Lib.hid (And.intro r0 f0)
  have HBA := Lib.hid hba
  have HZA := Lib.hid hza
  clear h' r0 f0 hba hza h hS he
  go_enter Tryz.func28, Tryz.ntmps28
  go_wp2_with fail
  rw [← hwa]
  clear hwa
  refine HC.out.mono ?_
  rintro _ w' ⟨rfl, rfl⟩
  have s0 := HR.out.1 0 _ rfl
  have s1 := HR.out.1 1 _ rfl
  have s2 := HR.out.1 2 _ rfl
  have s3 := HR.out.1 3 _ rfl
  have s4 := HR.out.1 4 _ rfl
  have s5 := HR.out.1 5 _ rfl
  have t0 := HR.out.2 0
  have t1 := HR.out.2 1
  have t2 := HR.out.2 2
  have t3 := HR.out.2 3
  have t4 := HR.out.2 4
  have t5 := HR.out.2 5
  simp only [List.getElem_toArray, List.getElem_cons_zero, List.getElem_cons_succ] at s0 s1 s2 s3 s4 s5
  go_wp2_with fail
  go_quiet (fail)
  go_wp2
  have key := set6 (w := wa.drewN nq) (v0 := .string ⟨#[]⟩) (v1 := .string ⟨#[]⟩) (v2 := .int .i64 0) (v3 := .int .i64 0) (v4 := .int .i64 0) (v5 := .slice none 0 0) s0 s1 s2 s3 s4 s5
  refine bodyPost_ret (results_cells_tmp rfl _ _ (w.heap.size + 1) [.string ⟨#[]⟩, .string ⟨#[]⟩, .int .i64 0, .int .i64 0, .int .i64 0, .slice none 0 0] _ rfl (six key.1 key.2.1 key.2.2.1 key.2.2.2.1 key.2.2.2.2.1 key.2.2.2.2.2) Tryz.underlying55 rfl meth_info) rfl ⟨rfl, ?_⟩
  have hq : w.heap.size ≤ w.heap.size + 1 := by omega
  exact ((((((below_drewN HBA.out _).setCell hq _).setCell hq _).setCell hq _).setCell hq _).setCell hq _).setCell hq _
end Go.Proofs.YtipinmbpdgjalaaGreatDoor.Hi
/- slices.Backward over a row of numbers: what the iterator gives. -/
set_option maxRecDepth 100000
set_option maxHeartbeats 2000000
set_option linter.unusedVariables false
set_option linter.unusedSimpArgs false
namespace Go.Proofs.YtipinmbpdgjalaaGreatDoor.Hi
open Go.RowKit Go.Shelf Bs
attribute [local go_sem] Oper.semAt_some

/-- A place and a number of which P holds. -/
abbrev BkT (P : Int → Prop) := { x : Int × Int // P x.2 }
/-- What has come when k rounds are over: from the last on. -/
def back (P : Int → Prop) (zs : List Int) (hP : ∀ j : Nat, P (zs[j]?.getD 0)) (k : Nat) : List (BkT P) := (List.range k).map fun (j : Nat) => ⟨(((zs.length - 1 - j : Nat) : Int), zs[zs.length - 1 - j]?.getD 0), hP _⟩
theorem back_succ {P : Int → Prop} (zs : List Int) (hP : ∀ j : Nat, P (zs[j]?.getD 0)) (k : Nat) : back P zs hP (k + 1) = back P zs hP k ++ [⟨(((zs.length - 1 - k : Nat) : Int), zs[zs.length - 1 - k]?.getD 0), hP _⟩] := by simp [back, List.range_succ]
theorem back_length {P : Int → Prop} (zs : List Int) (hP : ∀ j : Nat, P (zs[j]?.getD 0)) (k : Nat) : (back P zs hP k).length = k := by simp [back]
theorem back_snd {P : Int → Prop} (zs : List Int) (hP : ∀ j : Nat, P (zs[j]?.getD 0)) : (back P zs hP zs.length).map (·.1.2) = zs.reverse := by
  apply List.ext_getElem
  · simp [back]
  · intro i h1 h2
    have hi : i < zs.length := by simpa using h2
    have h3 : zs.length - 1 - i < zs.length := by omega
    simp [back, List.getElem_reverse, List.getElem?_eq_getElem h3]

abbrev encB {P : Int → Prop} (x : BkT P) : Array Value := #[.int .i64 x.1.1, .int .i64 x.1.2]

theorem Backward1 (n : Nat) (hn : 1 ≤ n) (F : Nat → Prop) (l s b off cap : Nat) (P : Int → Prop) (zs : List Int) (hP : ∀ j : Nat, P (zs[j]?.getD 0)) (hlen : zs.length ≤ 1000) (hb : ¬ F b) (hs : ¬ F s) (J Jx : List (BkT P) → World → Prop)
    (hY : ∀ pre x W, J pre W → pre.length < zs.length → YieldAt Fence.wide (n - 1) Tryz.prog l (encB x) W fun e W' =>
      (e = .returned (.bool true) ∧ J (pre ++ [x]) W' ∧ Chg F W W') ∨ (e = .returned (.bool false) ∧ Jx (pre ++ [x]) W'))
    (W : World) (hBs : W.cell? ⟨s, 0, none⟩ = some (.slice (some ⟨b, off, none⟩) zs.length cap)) (hc : ∀ j, j < zs.length → W.cell? ⟨b, off + j, none⟩ = some (.int .i64 (zs[j]?.getD 0))) (h0 : J [] W) :
    CallsIn Fence.wide n Tryz.prog 72 #[.func (.yield l) #[] #[], .pointer (some ⟨s, 0, none⟩)] W fun e W' => (∃ v, e = .returned v) ∧
      ((∃ ys, ys = back P zs hP zs.length ∧ J ys W') ∨ (∃ pre, (∃ k, k ≤ zs.length ∧ pre = back P zs hP k) ∧ Jx pre W')) := by
  refine callsIn_of_wp Tryz.func72 rfl trivial ?_ rfl
  simp only [Tryz.ntmps72, List.size_toArray, List.length_cons, List.length_nil, Nat.reduceAdd, Nat.reduceSub, Array.replicate_succ, Array.replicate_zero, List.push_toArray, List.append_toArray, List.nil_append, List.cons_append]
  have HLEN := Lib.hid hlen
  gi_wp2
  gi_loopw [3] (fun i wr => ∃ k : Nat, Hid (k ≤ zs.length ∧ Chg F W wr) ∧ ((k = zs.length ∧ i = .int .i64 (-1)) ∨ ∃ j : Nat, j + k + 1 = zs.length ∧ i = .int .i64 j) ∧ J (back P zs hP k) wr)
    (fun i _ => (intOf i + 1).toNat)
  case atStart =>
    refine ⟨0, Lib.hid ⟨Nat.zero_le _, Chg.refl _ _⟩, ?_, h0⟩
    rcases Nat.eq_zero_or_pos zs.length with e | e
    · exact .inl ⟨e.symm, by rw [e]; rfl⟩
    · refine .inr ⟨zs.length - 1, by omega, ?_⟩
      congr 1
      omega
  case round =>
    obtain ⟨k, hk, hi, hJs⟩ := hrel
    rcases hi with ⟨hkl, rfl⟩ | ⟨j, hj, rfl⟩
    · subst hkl
      gi_wp2
      go_end0
      exact ⟨⟨_, rfl⟩, .inl ⟨_, rfl, hJs⟩⟩
    · have hs' := Chg.cell_eq hk.out.2 hBs hs
      have hc' := Chg.cell_eq hk.out.2 (hc j (by omega)) hb
      have hj0 : (0 : Int) ≤ (j : Int) := by omega
      have hjl : (j : Int) < (zs.length : Int) := by omega
      have HB : Hid (back P zs hP (k + 1) = back P zs hP k ++ [⟨((j : Int), zs[j]?.getD 0), hP j⟩]) := Lib.hid (by
        rw [back_succ zs hP]
        obtain rfl : zs.length - 1 - k = j := by omega
        rfl)
      obtain ⟨fn, tmps, assign, body, hy, hR⟩ := hY _ ⟨((j : Int), zs[j]?.getD 0), hP j⟩ wr hJs (by rw [back_length]; omega)
      dsimp only [encB] at hy
      gi_wp2
      refine hR.mono ?_
      rintro e W3 (⟨rfl, hJ3, hk3⟩ | ⟨rfl, hJx3⟩)
      · gi_wp2
        go_roundw
        case rel =>
          refine ⟨k + 1, Lib.hid ⟨by omega, Chg.trans hk.out.2 hk3 fun _ _ h => h⟩, ?_, by rw [HB.out]; exact hJ3⟩
          rcases Nat.eq_zero_or_pos j with e | e
          · subst e
            exact .inl ⟨by omega, by go_num⟩
          · exact .inr ⟨j - 1, by omega, by go_num⟩
        case measure => simp [intOf]
      · gi_wp2
        refine bodyPost_ret (results_none rfl _ _ _) rfl ?_
        exact ⟨⟨_, rfl⟩, .inr ⟨_, ⟨k + 1, by omega, HB.out.symm⟩, hJx3⟩⟩

theorem Backward_in (a : Option Addr) (len cap : Nat) (w : World) :
    Calls Tryz.prog 41 #[.slice a len cap] w fun e w' => e = .returned (.func (.func 72) #[] #[.pointer (some ⟨w.heap.size, 0, none⟩)]) ∧ w' = w.alloc (.cells #[.slice a len cap] 62) := by
  refine (callsIn_wide (n := 3)).1 ?_
  refine callsIn_of_wp Tryz.func41 rfl trivial ?_ rfl
  simp only [Tryz.ntmps41, List.size_toArray, List.length_cons, List.length_nil, Nat.reduceAdd, Nat.reduceSub, Array.replicate_succ, Array.replicate_zero, List.push_toArray, List.append_toArray, List.nil_append, List.cons_append]
  gi_wp2
  go_ret
  exact ⟨rfl, rfl⟩
theorem Backward_stops (n : Nat) (hn : 1 ≤ n) (F : Nat → Prop) (s b off cap : Nat) (P : Int → Prop) (zs : List Int) (hP : ∀ j : Nat, P (zs[j]?.getD 0)) (hlen : zs.length ≤ 1000) (w : World) (hb : ¬ F b) (hs : ¬ F s)
    (hBs : w.cell? ⟨s, 0, none⟩ = some (.slice (some ⟨b, off, none⟩) zs.length cap)) (hc : ∀ j, j < zs.length → w.cell? ⟨b, off + j, none⟩ = some (.int .i64 (zs[j]?.getD 0))) :
    SeqStopsK Fence.wide n Tryz.prog 72 #[.pointer (some ⟨s, 0, none⟩)] (encB (P := P)) (Chg F) (fun ys => ys = back P zs hP zs.length) (fun pre => ∃ k, k ≤ zs.length ∧ pre = back P zs hP k) zs.length w :=
  fun l J Jx W hW _ _ hY h0 => Backward1 n hn F l s b off cap P zs hP hlen hb hs J Jx hY W (below_cell' hW hBs) (fun j hj => below_cell' hW (hc j hj)) h0
end Go.Proofs.YtipinmbpdgjalaaGreatDoor.Hi
/- Overriding: what the asker asks. -/
set_option maxRecDepth 100000
set_option maxHeartbeats 1000000
set_option linter.unusedVariables false
set_option linter.unusedSimpArgs false
namespace Go.Proofs.YtipinmbpdgjalaaGreatDoor.Hi
open Go.RowKit Go.Sort Bs
attribute [local go_sem ↓] Go.wp_at_zero Go.wp_at_succ

theorem OStatic (nm ds : ByteArray) (f l s : Int) (ad : Option Addr) (q c : Nat) (w : World) :
    Calls Tryz.prog 78 #[.agg #[.string nm, .string ds, .int .i64 f, .int .i64 l, .int .i64 s, .slice ad q c]] w fun r w' => r = .returned (.bool (statF f)) ∧ Below w.heap.size w w' := by
  have hb : Below w.heap.size w (w.alloc (.cells #[.string nm, .string ds, .int .i64 f, .int .i64 l, .int .i64 s, .slice ad q c] 55)) := (Below.refl _ _).alloc (Nat.le_refl _) _
  have HB := Lib.hid hb
  unfold statF
  clear hb
  go_enter Tryz.func78, Tryz.ntmps78
  go_wp2
  go_ret
  exact ⟨rfl, HB.out⟩
theorem OFree (nm ds : ByteArray) (f l s : Int) (ad : Option Addr) (q c : Nat) (w : World) :
    Calls Tryz.prog 79 #[.agg #[.string nm, .string ds, .int .i64 f, .int .i64 l, .int .i64 s, .slice ad q c]] w fun r w' => r = .returned (.bool (!statF f && !(nm.toList == initN.toList))) ∧ Below w.heap.size w w' := by
  have hb : Below w.heap.size w (w.alloc (.cells #[.string nm, .string ds, .int .i64 f, .int .i64 l, .int .i64 s, .slice ad q c] 55)) := (Below.refl _ _).alloc (Nat.le_refl _) _
  have q0 : (w.alloc (.cells #[.string nm, .string ds, .int .i64 f, .int .i64 l, .int .i64 s, .slice ad q c] 55)).cell? ⟨w.heap.size, 0, none⟩ = some (.string nm) := World.cell?_alloc_new ..
  have HB := Lib.hid hb
  have HS := Lib.hid (OStatic nm ds f l s ad q c (w.alloc (.cells #[.string nm, .string ds, .int .i64 f, .int .i64 l, .int .i64 s, .slice ad q c] 55)))
  have e0 : initN.toList = [60, 105, 110, 105, 116, 62] := by rw [ByteArray.toList_eq]; rfl
  rw [e0]
  obtain ⟨ini, hini⟩ : ∃ ini, (nm.toList == [60, 105, 110, 105, 116, 62]) = ini := ⟨_, rfl⟩
  rw [hini]
  obtain ⟨st, hst⟩ : ∃ st, statF f = st := ⟨_, rfl⟩
  rw [hst] at HS ⊢
  clear hb hst e0
  cases st
  · cases ini
    all_goals
      go_enter Tryz.func79, Tryz.ntmps79
      go_wp2_with fail
      refine HS.out.mono ?_
      rintro e w1 ⟨rfl, hb⟩
      have HB1 := Lib.hid (HB.out.trans (hb.mono HB.out.size))
      have q1 := below_cell' hb q0
      clear hb HS
      go_wp2
      go_ret
      exact ⟨rfl, HB1.out⟩
  · go_enter Tryz.func79, Tryz.ntmps79
    go_wp2_with fail
    refine HS.out.mono ?_
    rintro e w1 ⟨rfl, hb⟩
    have HB1 := Lib.hid (HB.out.trans (hb.mono HB.out.size))
    clear hb HS
    go_wp2
    go_ret
    exact ⟨rfl, HB1.out⟩

/-- An asker in memory: the world, the method asked for, the method. -/
structure AskAt (w : World) (q bw : Nat) (a : Int × Int) (x : MethM) : Prop where
  k0 : w.cell? ⟨q, 0, none⟩ = some (.pointer (some ⟨bw, 0, none⟩))
  k1 : w.cell? ⟨q, 1, none⟩ = some (.int .i64 a.1)
  k2 : w.cell? ⟨q, 2, none⟩ = some (.int .i64 a.2)
  k3 : w.cell? ⟨q, 3, none⟩ = some (.string x.name)
  k4 : w.cell? ⟨q, 4, none⟩ = some (.string x.desc)
  k5 : w.cell? ⟨q, 5, none⟩ = some (.int .i64 x.flags)
  k6 : w.cell? ⟨q, 6, none⟩ = some (.int .i64 x.locals)
  k7 : w.cell? ⟨q, 7, none⟩ = some (.int .i64 x.stack)
  k8 : ∃ ad l c, w.cell? ⟨q, 8, none⟩ = some (.slice ad l c)
theorem AskAt.next {w w' : World} {q bw : Nat} {a : Int × Int} {x : MethM} (h : AskAt w q bw a x) (hb : Below w.heap.size w w') : AskAt w' q bw a x where
  k0 := below_cell' hb h.k0
  k1 := below_cell' hb h.k1
  k2 := below_cell' hb h.k2
  k3 := below_cell' hb h.k3
  k4 := below_cell' hb h.k4
  k5 := below_cell' hb h.k5
  k6 := below_cell' hb h.k6
  k7 := below_cell' hb h.k7
  k8 := by obtain ⟨ad, l, c, h8⟩ := h.k8; exact ⟨ad, l, c, below_cell' hb h8⟩

theorem methAt_at {m : List EntM} {a b : Nat} (ha : a < m.length) (hb : b < m[a].c.meths.length) : methAt m ((a : Int), (b : Int)) = some m[a].c.meths[b] := by
  unfold methAt
  simp only [entAt_nat ha]
  rw [if_pos (by omega), Int.toNat_natCast, List.getElem?_eq_getElem hb]

/-- A method's box of zeros, laid ahead of a call. -/
abbrev zM : Obj := .cells #[.string ⟨#[]⟩, .string ⟨#[]⟩, .int .i64 0, .int .i64 0, .int .i64 0, .slice none 0 0] 55
structure ZmAt (w1 : World) (g : Nat) : Prop where
  d0 : w1.cell? ⟨g, 0, none⟩ = some (.string ⟨#[]⟩)
  d1 : w1.cell? ⟨g, 1, none⟩ = some (.string ⟨#[]⟩)
  d2 : w1.cell? ⟨g, 2, none⟩ = some (.int .i64 0)
  d3 : w1.cell? ⟨g, 3, none⟩ = some (.int .i64 0)
  d4 : w1.cell? ⟨g, 4, none⟩ = some (.int .i64 0)
  d5 : w1.cell? ⟨g, 5, none⟩ = some (.slice none 0 0)
  fz : ∀ j, w1.frozen? ⟨g, j, none⟩ = false
theorem zm_at {wa w1 : World} (hb : Below (wa.alloc zM).drew.heap.size (wa.alloc zM).drew w1) : ZmAt w1 wa.heap.size where
  d0 := below_cell' hb (show World.cell? (wa.alloc zM) _ = _ from World.cell?_alloc_new ..)
  d1 := below_cell' hb (show World.cell? (wa.alloc zM) _ = _ from World.cell?_alloc_new ..)
  d2 := below_cell' hb (show World.cell? (wa.alloc zM) _ = _ from World.cell?_alloc_new ..)
  d3 := below_cell' hb (show World.cell? (wa.alloc zM) _ = _ from World.cell?_alloc_new ..)
  d4 := below_cell' hb (show World.cell? (wa.alloc zM) _ = _ from World.cell?_alloc_new ..)
  d5 := below_cell' hb (show World.cell? (wa.alloc zM) _ = _ from World.cell?_alloc_new ..)
  fz := fun j => (World.frozen?_of_block (w := (wa.alloc zM).drew) (a := ⟨wa.heap.size, j, none⟩) (hb.block _ (by show wa.heap.size < (wa.alloc zM).heap.size; simp))).trans (show (wa.alloc zM).frozen? ⟨wa.heap.size, j, none⟩ = false from frozen_new ..)

theorem off6 {w : World} {g : Nat} {v0 v1 v2 v3 v4 v5 : Value} {a : Addr} {v : Value} (h : a.block ≠ g) (hv : w.cell? a = some v) : ((((((w.setCell ⟨g, 0, none⟩ v0).setCell ⟨g, 1, none⟩ v1).setCell ⟨g, 2, none⟩ v2).setCell ⟨g, 3, none⟩ v3).setCell ⟨g, 4, none⟩ v4).setCell ⟨g, 5, none⟩ v5).cell? a = some v := by
  have key : ∀ (w' : World) (o : Nat) (u : Value), (w'.setCell ⟨g, o, none⟩ u).cell? a = w'.cell? a := fun w' o u => World.cell?_of_block (Below.heap_setCell w' ⟨g, o, none⟩ u a.block h)
  rw [key, key, key, key, key, key]
  exact hv
theorem bel6 {w w' : World} {g : Nat} (hb : Below w.heap.size w w') (hg : w.heap.size ≤ g) (v0 v1 v2 v3 v4 v5 : Value) : Below w.heap.size w ((((((w'.setCell ⟨g, 0, none⟩ v0).setCell ⟨g, 1, none⟩ v1).setCell ⟨g, 2, none⟩ v2).setCell ⟨g, 3, none⟩ v3).setCell ⟨g, 4, none⟩ v4).setCell ⟨g, 5, none⟩ v5) :=
  (((((hb.setCell hg _).setCell hg _).setCell hg _).setCell hg _).setCell hg _).setCell hg _
theorem ZmAt.flags {w : World} {g : Nat} (h : ZmAt w g) (v0 v1 v2 v3 v4 v5 : Value) : ((((((w.setCell ⟨g, 0, none⟩ v0).setCell ⟨g, 1, none⟩ v1).setCell ⟨g, 2, none⟩ v2).setCell ⟨g, 3, none⟩ v3).setCell ⟨g, 4, none⟩ v4).setCell ⟨g, 5, none⟩ v5).cell? ⟨g, 2, none⟩ = some v2 :=
  (set6 (v0 := v0) (v1 := v1) (v2 := v2) (v3 := v3) (v4 := v4) (v5 := v5) h.d0 h.d1 h.d2 h.d3 h.d4 h.d5).2.2.1

/-- May b be overridden from the class c? -/
theorem OSeen {B bw : Nat} {w0 w : World} {m : List EntM} (h : Built B bw w0 w m) {q : Nat} {a0 : Int × Int} {x0 : MethM} (hq : AskAt w q bw a0 x0) {c a b : Nat} (hc : c < m.length) (ha : a < m.length) (hb : b < m[a].c.meths.length) :
    Calls Tryz.prog 83 #[.pointer (some ⟨q, 0, none⟩), .int .i64 c, .agg #[.int .i64 a, .int .i64 b]] w fun r w' => r = .returned (.bool (seenM m c ((a : Int), (b : Int)))) ∧ Below w.heap.size w w' := by
  have hba : Below w.heap.size w (w.alloc (.cells #[.int .i64 a, .int .i64 b] 38)) := (Below.refl _ _).alloc (Nat.le_refl _) _
  have HB := Lib.hid hba
  have HQ := Lib.hid (hq.next hba)
  have HM := Lib.hid (fun wr (hr : Below w.heap.size w wr) => Method2 (h.next hr) ha hb)
  have HF := Lib.hid (fun wr => FOpen m[a].c.meths[b].flags wr)
  have HI := Lib.hid (fun wr (hr : Below w.heap.size w wr) => (h.next hr).isIface a)
  have HS := Lib.hid (fun wr (hr : Below w.heap.size w wr) => SamePackage_in (h.next hr).hw h.ord.short hc ha)
  have q0 : (w.alloc (.cells #[.int .i64 a, .int .i64 b] 38)).cell? ⟨w.heap.size, 0, none⟩ = some (.int .i64 a) := World.cell?_alloc_new ..
  have q1 : (w.alloc (.cells #[.int .i64 a, .int .i64 b] 38)).cell? ⟨w.heap.size, 1, none⟩ = some (.int .i64 b) := World.cell?_alloc_new ..
  have HE : Hid (seenM m c ((a : Int), (b : Int)) = if isIfaceM m a = true then openM m[a].c.meths[b].flags != 2 else (openM m[a].c.meths[b].flags == 1 || (openM m[a].c.meths[b].flags == 4 || (openM m[a].c.meths[b].flags == 0 && togB m[c].c.name m[a].c.name m[c].c.loader m[a].c.loader)))) := Lib.hid (by
    unfold seenM flO sameM
    rw [methAt_at ha hb]
    simp only [entAt_nat hc, entAt_nat ha])
  generalize m[a].c.meths[b] = x at HM HF HE
  generalize seenM m c ((a : Int), (b : Int)) = R at *
  generalize isIfaceM m a = ifa at *
  generalize togB m[c].c.name m[a].c.name m[c].c.loader m[a].c.loader = tg at *
  generalize openM x.flags = o at *
  clear h hba hq hb
  have z0 := HQ.out.k0
  go_enter Tryz.func83, Tryz.ntmps83
  go_wp2_with fail
  obtain ⟨wa, hwa⟩ : ∃ wa, (w.alloc (.cells #[.int .i64 a, .int .i64 b] 38)) = wa := ⟨_, rfl⟩
  rw [hwa] at HB HQ q0 q1 z0 ⊢
  clear hwa
  go_cut [7] from 8 to 18 (fun s7 wx => Hid (∃ g : Nat, s7 = .pointer (some ⟨g, 0, none⟩) ∧ wx.cell? ⟨g, 2, none⟩ = some (.int .i64 x.flags) ∧ (wx.cell? ⟨q, 0, none⟩ = some (.pointer (some ⟨bw, 0, none⟩)) ∧ wx.cell? ⟨w.heap.size, 0, none⟩ = some (.int .i64 a) ∧ wx.cell? ⟨w.heap.size, 1, none⟩ = some (.int .i64 b)) ∧ Below w.heap.size w wx))
  case first =>
    have HX1 : Hid (Below w.heap.size w wa.drew) := Lib.hid HB.out.drew
    have HX2 : Hid (Below w.heap.size w (wa.alloc (.cells #[.string ⟨#[]⟩, .string ⟨#[]⟩, .int .i64 0, .int .i64 0, .int .i64 0, .slice none 0 0] 55)).drew) := Lib.hid (HB.out.alloc HB.out.size _).drew
    have hql : q < wa.heap.size := World.block_lt_of_cell? _ _ z0
    have hwl : w.heap.size < wa.heap.size := World.block_lt_of_cell? _ _ q0
    go_region_with (first | (go_at_call 28; (with_reducible refine (HM.out _ HX1.out).mono ?_); rintro _ w1 ⟨ad, l, cc, rfl, hb⟩; (have y0 := below_cell' hb (show wa.drew.cell? _ = _ from z0)); (have p0 := below_cell' hb (show wa.drew.cell? _ = _ from q0)); (have p1 := below_cell' hb (show wa.drew.cell? _ = _ from q1))) | (go_at_call 28; (with_reducible refine (HM.out _ HX2.out).mono ?_); rintro _ w1 ⟨ad, l, cc, rfl, hb⟩; (have y0 := below_cell' hb (show World.cell? (World.drew _) _ = _ from alloc_old z0)); (have p0 := below_cell' hb (show World.cell? (World.drew _) _ = _ from alloc_old q0)); (have p1 := below_cell' hb (show World.cell? (World.drew _) _ = _ from alloc_old q1)); (have HZM := Lib.hid (zm_at hb)); (have d0 := HZM.out.d0); (have d1 := HZM.out.d1); (have d2 := HZM.out.d2); (have d3 := HZM.out.d3); (have d4 := HZM.out.d4); (have d5 := HZM.out.d5); (have f0 := HZM.out.fz 0); (have f1 := HZM.out.fz 1); (have f2 := HZM.out.fz 2); (have f3 := HZM.out.fz 3); (have f4 := HZM.out.fz 4); (have f5 := HZM.out.fz 5)))
    all_goals first
      | ((have HDD := d0)
         (have HBF := Lib.hid (HX2.out.trans (hb.mono HX2.out.size)))
         (have HY := Lib.hid (And.intro y0 (And.intro p0 p1)))
         (have HN := Lib.hid (And.intro hql hwl))
         (have HW := Lib.hid HB.out.size)
         (clear hb y0 p0 p1 hql hwl z0 q0 q1 HX1 HX2 HDD)
         go_wp2_with fail
         go_meet
         exact Lib.hid ⟨wa.heap.size, rfl, HZM.out.flags _ _ _ _ _ _, ⟨off6 (by have := HN.out.1; simp only; omega) HY.out.1, off6 (by have := HN.out.2; simp only; omega) HY.out.2.1, off6 (by have := HN.out.2; simp only; omega) HY.out.2.2⟩, bel6 HBF.out HW.out _ _ _ _ _ _⟩)
      | ((have HBF := Lib.hid (HX1.out.trans (hb.mono HX1.out.size)))
         (have HY := Lib.hid (And.intro y0 (And.intro p0 p1)))
         (clear hb y0 p0 p1 hql hwl z0 q0 q1 HX1 HX2)
         go_wp2_with fail
         go_meet
         exact Lib.hid ⟨w1.heap.size, rfl, World.cell?_alloc_new .., ⟨alloc_old HY.out.1, alloc_old HY.out.2.1, alloc_old HY.out.2.2⟩, HBF.out.alloc HBF.out.size _⟩)
  case rest =>
    obtain ⟨g, rfl, x2, ⟨y0, p0, p1⟩, hbc⟩ := hcut.out
    clear hcut
    have HB1 := Lib.hid hbc
    have HFX := Lib.hid (HF.out wc)
    clear hbc HM HB q0 q1 z0 HF HQ
    go_wp2_with fail
    refine HFX.out.mono ?_
    rintro _ w2 ⟨rfl, rfl⟩
    clear HFX
    go_wp2_with fail
    have k0 := cell_regrown y0
    have k1 := cell_regrown p0
    have cI : ∀ d os, Calls Tryz.prog 21 #[.pointer (some ⟨bw, 0, none⟩), .int .i64 a] (grow (redrawn wc d) os) fun e w'' => e = .returned (.bool ifa) ∧ ∃ p : Regrown, w'' = grow (redrawn wc p.d) p.os := fun d os => Calls.regrown_of (HI.out _ (HB1.out.trans ((below_regrown wc d os).mono HB1.out.size)))
    refine wp_region_quiet_below (by kernel_rfl) (by kernel_rfl) ?_
    repeat (quiet_step (exact cI _ _))
    refine wpQuiet_nil ?_
    intro _ hw'
    obtain ⟨⟨dq, osq⟩, hw''⟩ := hw'
    subst hw''
    have hb := below_regrown wc dq osq
    clear cI k0 k1
    generalize grow (redrawn wc dq) osq = w2 at hb ⊢
    have HB2 := Lib.hid (HB1.out.trans (hb.mono HB1.out.size))
    have q0 := below_cell' hb p0
    have q1 := below_cell' hb p1
    have z0 := below_cell' hb y0
    clear hb HB1 p0 p1 y0 HI
    cases ifa
    · have HE2 : Hid (R = (o == 1 || (o == 4 || (o == 0 && tg)))) := Lib.hid (by rw [HE.out]; rfl)
      clear HE
      by_cases h1 : o = 1
      · subst h1
        have G : Hid (R = true) := Lib.hid (by rw [HE2.out]; rfl)
        go_wp2_with fail
        go_quiet (fail)
        go_wp2
        go_ret
        exact ⟨by rw [G.out]; rfl, below_drewN HB2.out _⟩
      have h1' : (o == 1) = false := by simpa using h1
      by_cases h4 : o = 4
      · subst h4
        have G : Hid (R = true) := Lib.hid (by rw [HE2.out]; rfl)
        go_wp2_with fail
        go_quiet (fail)
        go_wp2
        go_ret
        exact ⟨by rw [G.out]; rfl, below_drewN HB2.out _⟩
      have h4' : (o == 4) = false := by simpa using h4
      by_cases h0 : o = 0
      · subst h0
        have G : Hid (R = tg) := Lib.hid (by rw [HE2.out]; rfl)
        clear HE2
        have k0 := cell_regrown z0
        have k1 := cell_regrown q0
        have cS : ∀ d os, Calls Tryz.prog 99 #[.pointer (some ⟨bw, 0, none⟩), .int .i64 c, .int .i64 a] (grow (redrawn w2 d) os) fun e w'' => e = .returned (.bool tg) ∧ ∃ p : Regrown, w'' = grow (redrawn w2 p.d) p.os := fun d os => Calls.regrown_of (HS.out _ (HB2.out.trans ((below_regrown w2 d os).mono HB2.out.size)))
        go_wp2_with fail
        refine wp_region_quiet_below (by kernel_rfl) (by kernel_rfl) ?_
        repeat (quiet_step (exact cS _ _))
        refine wpQuiet_nil ?_
        intro _ hw'
        obtain ⟨⟨dq, osq⟩, hw''⟩ := hw'
        subst hw''
        have HB3 := Lib.hid (HB2.out.trans ((below_regrown w2 dq osq).mono HB2.out.size))
        clear cS k0 k1
        go_wp2
        go_ret
        exact ⟨by rw [G.out]; rfl, HB3.out⟩
      · have h0' : (o == 0) = false := by simpa using h0
        have G : Hid (R = false) := Lib.hid (by rw [HE2.out, h1', h4', h0']; rfl)
        clear HE2
        go_wp2_with fail
        go_quiet (fail)
        go_wp2
        go_ret
        exact ⟨by rw [G.out]; rfl, below_drewN HB2.out _⟩
    · have G : Hid (R = (o != 2)) := Lib.hid (by rw [HE.out]; rfl)
      clear HE
      go_wp2
      go_ret
      exact ⟨by rw [G.out]; rfl, HB2.out⟩
end Go.Proofs.YtipinmbpdgjalaaGreatDoor.Hi
/- Overriding: a class's own method of the asked one's name. -/
set_option maxRecDepth 100000
set_option maxHeartbeats 8000000
set_option linter.unusedVariables false
set_option linter.unusedSimpArgs false
namespace Go.Proofs.YtipinmbpdgjalaaGreatDoor.Hi
open Go.RowKit Go.Sort Bs
attribute [local go_sem ↓] Go.wp_at_zero Go.wp_at_succ

theorem own_some {m : List EntM} {n d : ByteArray} {c : Nat} (hc : c < m.length) {b : Nat} (hb : b < m[c].c.meths.length) (e : (findH m (c : Int) n d).1 = (b : Int)) (h0 : (findH m (c : Int) n d).2 = 0) (hi : isIfaceM m c = false) :
    ownM m n d c = if (freeX m[c].c.meths[b] && !privF m[c].c.meths[b].flags) = true then some ((c : Int), (b : Int)) else none := by
  unfold ownM
  rw [if_pos ⟨h0, hi⟩, e, methAt_at hc hb]
theorem own_none {m : List EntM} {n d : ByteArray} {c : Nat} (h : (findH m (c : Int) n d).2 ≠ 0 ∨ isIfaceM m c = true) : ownM m n d c = none := by
  unfold ownM
  rw [if_neg]
  rintro ⟨h1, h2⟩
  rcases h with h | h
  · exact h h1
  · rw [h] at h2; cases h2

/-- A method in a box of its own. -/
structure MBox (w : World) (g : Nat) (y : MethM) (ad : Option Addr) (l c : Nat) : Prop where
  b0 : w.cell? ⟨g, 0, none⟩ = some (.string y.name)
  b1 : w.cell? ⟨g, 1, none⟩ = some (.string y.desc)
  b2 : w.cell? ⟨g, 2, none⟩ = some (.int .i64 y.flags)
  b3 : w.cell? ⟨g, 3, none⟩ = some (.int .i64 y.locals)
  b4 : w.cell? ⟨g, 4, none⟩ = some (.int .i64 y.stack)
  b5 : w.cell? ⟨g, 5, none⟩ = some (.slice ad l c)
theorem MBox.new (w : World) (y : MethM) (ad : Option Addr) (l c : Nat) : MBox (w.alloc (.cells #[.string y.name, .string y.desc, .int .i64 y.flags, .int .i64 y.locals, .int .i64 y.stack, .slice ad l c] 55)) w.heap.size y ad l c :=
  ⟨World.cell?_alloc_new .., World.cell?_alloc_new .., World.cell?_alloc_new .., World.cell?_alloc_new .., World.cell?_alloc_new .., World.cell?_alloc_new ..⟩
theorem ZmAt.box {w : World} {g : Nat} (h : ZmAt w g) (y : MethM) (ad : Option Addr) (l c : Nat) : MBox ((((((w.setCell ⟨g, 0, none⟩ (.string y.name)).setCell ⟨g, 1, none⟩ (.string y.desc)).setCell ⟨g, 2, none⟩ (.int .i64 y.flags)).setCell ⟨g, 3, none⟩ (.int .i64 y.locals)).setCell ⟨g, 4, none⟩ (.int .i64 y.stack)).setCell ⟨g, 5, none⟩ (.slice ad l c)) g y ad l c := by
  obtain ⟨e0, e1, e2, e3, e4, e5⟩ := set6 (v0 := .string y.name) (v1 := .string y.desc) (v2 := .int .i64 y.flags) (v3 := .int .i64 y.locals) (v4 := .int .i64 y.stack) (v5 := .slice ad l c) h.d0 h.d1 h.d2 h.d3 h.d4 h.d5
  exact ⟨e0, e1, e2, e3, e4, e5⟩
theorem MBox.next {w w' : World} {g : Nat} {y : MethM} {ad : Option Addr} {l c : Nat} (h : MBox w g y ad l c) (hb : Below w.heap.size w w') : MBox w' g y ad l c :=
  ⟨below_cell' hb h.b0, below_cell' hb h.b1, below_cell' hb h.b2, below_cell' hb h.b3, below_cell' hb h.b4, below_cell' hb h.b5⟩

theorem idAt_off {w w1 : World} (h : IdAt w w1) {g o : Nat} (hg : w.heap.size < g) {v : Value} (hv : w1.cell? ⟨g, o, none⟩ = some v) (v0 v1 : Value) : ((w1.setCell ⟨w.heap.size, 0, none⟩ v0).setCell ⟨w.heap.size, 1, none⟩ v1).cell? ⟨g, o, none⟩ = some v := by
  have key : ∀ (w' : World) (i : Nat) (u : Value), (w'.setCell ⟨w.heap.size, i, none⟩ u).cell? ⟨g, o, none⟩ = w'.cell? ⟨g, o, none⟩ := fun w' i u => World.cell?_of_block (Below.heap_setCell w' ⟨w.heap.size, i, none⟩ u g (by simp only; omega))
  rw [key, key]
  exact hv

/-- The class's own method of the asked one's name, and whether it may override. -/
theorem OOwn {B bw : Nat} {w0 w : World} {m : List EntM} (h : Built B bw w0 w m) {q : Nat} {a0 : Int × Int} {x : MethM} (hq : AskAt w q bw a0 x) {c : Nat} (hc : c < m.length) :
    Calls Tryz.prog 80 #[.pointer (some ⟨q, 0, none⟩), .int .i64 c] w fun r w' => r = .returned (.tuple #[.agg #[.int .i64 c, .int .i64 (findH m c x.name x.desc).1], .bool (ownM m x.name x.desc c).isSome]) ∧ Below w.heap.size w w' := by
  have HS := Lib.hid (IdAt.start w)
  have HQ := Lib.hid (hq.next HS.out.bel)
  have HF := Lib.hid (fun wr (hr : Below w.heap.size w wr) => (h.next hr).find hc x.name x.desc)
  have HI := Lib.hid (fun wr (hr : Below w.heap.size w wr) => (h.next hr).isIface c)
  have z0 := HQ.out.k0
  have z3 := HQ.out.k3
  have z4 := HQ.out.k4
  by_cases he : (findH m (c : Int) x.name x.desc).2 = 0
  · obtain ⟨b, hb, ek, hmq⟩ := findH_ok hc he
    have HM := Lib.hid (fun wr (hr : Below w.heap.size w wr) => Method2 (h.next hr) hc hb)
    have HFR := Lib.hid (fun (l : Int) (s : Int) ad q cc wr => OFree m[c].c.meths[b].name m[c].c.meths[b].desc m[c].c.meths[b].flags l s ad q cc wr)
    rw [ek, he] at HF
    rw [ek]
    obtain ⟨ifc, hifc⟩ : ∃ ifc, isIfaceM m c = ifc := ⟨_, rfl⟩
    rw [hifc] at HI
    have HO : Hid ((ownM m x.name x.desc c).isSome = if ifc = true then false else ((!statF m[c].c.meths[b].flags && !(m[c].c.meths[b].name.toList == initN.toList)) && (bits .and .i64 m[c].c.meths[b].flags 2 == 0))) := Lib.hid (by
      cases ifc
      · rw [own_some hc hb ek he hifc]
        unfold freeX privF
        rw [bne]
        cases (!statF m[c].c.meths[b].flags && !(m[c].c.meths[b].name.toList == initN.toList)) <;> cases (bits .and .i64 m[c].c.meths[b].flags 2 == 0) <;> rfl
      · rw [own_none (.inr hifc)]
        rfl)
    obtain ⟨R, hR⟩ : ∃ R, (ownM m x.name x.desc c).isSome = R := ⟨_, rfl⟩
    rw [hR] at HO ⊢
    generalize m[c].c.meths[b] = y at HM HFR HO hmq
    generalize (!statF y.flags && !(y.name.toList == initN.toList)) = fr at HFR HO
    clear h hq hb ek he hifc hR HQ hmq
    go_enter Tryz.func80, Tryz.ntmps80
    go_wp2_with fail
    obtain ⟨ws, hws⟩ : ∃ ws, (w.alloc (.cells #[.int .i64 0, .int .i64 0] 38)) = ws := ⟨_, rfl⟩
    rw [hws] at HS z0 z3 z4 ⊢
    clear hws
    have k0 := cell_regrown z0
    have k3 := cell_regrown z3
    have k4 := cell_regrown z4
    have cF : ∀ d os, Calls Tryz.prog 29 #[.pointer (some ⟨bw, 0, none⟩), .int .i64 c, .string x.name, .string x.desc] (grow (redrawn ws d) os) fun e w'' => e = .returned (.tuple #[.int .i64 b, .int .i64 0]) ∧ ∃ p : Regrown, w'' = grow (redrawn ws p.d) p.os := fun d os => Calls.regrown_of (HF.out _ (HS.out.bel.trans ((below_regrown ws d os).mono HS.out.bel.size)))
    refine wp_region_quiet_below (by kernel_rfl) (by kernel_rfl) ?_
    repeat (quiet_step (exact cF _ _))
    refine wpQuiet_nil ?_
    intro _ hw'
    obtain ⟨⟨dq, osq⟩, hw''⟩ := hw'
    subst hw''
    have hb := below_regrown ws dq osq
    clear cF k0 k3 k4
    generalize grow (redrawn ws dq) osq = w1 at hb ⊢
    obtain ⟨wx, hwx⟩ : ∃ wx, (w1.alloc (.cells #[.int .i64 c, .int .i64 b] 38)) = wx := ⟨_, rfl⟩
    have hbx : Below w1.heap.size w1 wx := by rw [← hwx]; exact (Below.refl _ _).alloc (Nat.le_refl _) _
    have i0 : wx.cell? ⟨w1.heap.size, 0, none⟩ = some (.int .i64 c) := by rw [← hwx]; exact World.cell?_alloc_new ..
    have i1 : wx.cell? ⟨w1.heap.size, 1, none⟩ = some (.int .i64 b) := by rw [← hwx]; exact World.cell?_alloc_new ..
    have hb1 := hb.trans (hbx.mono hb.size)
    have HB1 := Lib.hid (HS.out.next hb1)
    have y0 := below_cell' hb1 z0
    have HIX := Lib.hid (HI.out wx HB1.out.bel)
    clear hb hbx hb1 HF HS HI z0 z3 z4
    go_wp2_with fail
    try rw [hwx]
    clear hwx
    refine HIX.out.mono ?_
    rintro _ w2 ⟨rfl, hb⟩
    have HB2 := Lib.hid (HB1.out.next hb)
    have z0 := below_cell' hb y0
    have j0 := below_cell' hb i0
    have j1 := below_cell' hb i1
    generalize w1.heap.size = ib at *
    clear hb HIX HB1 y0 i0 i1
    cases ifc
    · have HO2 : Hid (R = (fr && (bits .and .i64 y.flags 2 == 0))) := Lib.hid (by rw [HO.out]; rfl)
      clear HO
      go_wp2_with fail
      go_cut [9] from 10 to 52 (fun s9 wx => Hid (∃ (g : Nat) (ad : Option Addr) (l cc : Nat), s9 = .pointer (some ⟨g, 0, none⟩) ∧ w2.heap.size ≤ g ∧ MBox wx g y ad l cc ∧ Below w2.heap.size w2 wx))
      case first =>
        have hql : q < w2.heap.size := World.block_lt_of_cell? _ _ z0
        have hil : ib < w2.heap.size := World.block_lt_of_cell? _ _ j0
        have HX1 : Hid (Below w.heap.size w w2.drew) := Lib.hid HB2.out.bel.drew
        have HX2 : Hid (Below w.heap.size w (w2.alloc (.cells #[.string ⟨#[]⟩, .string ⟨#[]⟩, .int .i64 0, .int .i64 0, .int .i64 0, .slice none 0 0] 55)).drew) := Lib.hid (HB2.out.bel.alloc HB2.out.bel.size _).drew
        go_region_with (first | (go_at_call 28; (with_reducible refine (HM.out _ HX1.out).mono ?_); rintro _ w3 ⟨ad, l, cc, rfl, hb⟩) | (go_at_call 28; (with_reducible refine (HM.out _ HX2.out).mono ?_); rintro _ w3 ⟨ad, l, cc, rfl, hb⟩; (have HZM := Lib.hid (zm_at hb)); (have d0 := HZM.out.d0); (have d1 := HZM.out.d1); (have d2 := HZM.out.d2); (have d3 := HZM.out.d3); (have d4 := HZM.out.d4); (have d5 := HZM.out.d5); (have f0 := HZM.out.fz 0); (have f1 := HZM.out.fz 1); (have f2 := HZM.out.fz 2); (have f3 := HZM.out.fz 3); (have f4 := HZM.out.fz 4); (have f5 := HZM.out.fz 5)))
        all_goals first
          | ((have HDD := d0)
             (have HBF : Hid (Below w2.heap.size w2 w3) := Lib.hid (((Below.refl w2.heap.size w2).alloc (Nat.le_refl _) (.cells #[.string ⟨#[]⟩, .string ⟨#[]⟩, .int .i64 0, .int .i64 0, .int .i64 0, .slice none 0 0] 55)).drew.trans (hb.mono (by show w2.heap.size ≤ (w2.alloc _).heap.size; simp))))
             (clear hb HX1 HX2 HDD z0 j0 j1 hql hil)
             go_wp2_with fail
             go_meet
             exact Lib.hid ⟨w2.heap.size, ad, l, cc, rfl, Nat.le_refl _, HZM.out.box _ _ _ _, bel6 HBF.out (Nat.le_refl _) _ _ _ _ _ _⟩)
          | ((have HBF : Hid (Below w2.heap.size w2 w3) := Lib.hid ((Below.refl w2.heap.size w2).drew.trans hb))
             (clear hb HX1 HX2 z0 j0 j1 hql hil)
             go_wp2_with fail
             go_meet
             exact Lib.hid ⟨w3.heap.size, ad, l, cc, rfl, HBF.out.size, MBox.new _ _ _ _ _, HBF.out.alloc HBF.out.size _⟩)
      case rest =>
        obtain ⟨g, ad, l, cc, rfl, hg, hm, hbc⟩ := hcut.out
        clear hcut HM
        have HB3 := Lib.hid (HB2.out.next hbc)
        have i0 := below_cell' hbc j0
        have i1 := below_cell' hbc j1
        have HMB := Lib.hid hm
        have HFX := Lib.hid (HFR.out y.locals y.stack ad l cc wc.drew)
        have x0 := hm.b0
        have x1 := hm.b1
        have x2 := hm.b2
        have x3 := hm.b3
        have x4 := hm.b4
        have x5 := hm.b5
        have HG : Hid (w.heap.size < g) := Lib.hid (Nat.lt_of_lt_of_le HB2.out.lt hg)
        clear hg hm hbc HB2 HFR z0 j0 j1
        cases fr
        · have G : Hid (R = false) := Lib.hid (by rw [HO2.out]; rfl)
          clear HO2
          go_wp2_with fail
          refine wp_region_any (by kernel_rfl) ?_
          try (change wpAny _ _ _ _ _ _ _ (World.drew _))
          refine wpAny_ready (rs := [0, 1]) (by kernel_rfl) (by simp) ?_
          refine AllReady.cons rfl (fun K hK => ?_) (AllReady.cons rfl (fun K hK => ?_) AllReady.nil)
          · go_simp
            refine hK _ _ ?_
            clear hK K
            refine wpAny_ready (rs := [1]) (by kernel_rfl) (by simp) ?_
            refine AllReady.cons rfl (fun K hK => ?_) AllReady.nil
            go_simp
            refine hK _ _ ?_
            clear hK K
            refine wpAny_ready (rs := [2]) (by kernel_rfl) (by simp) ?_
            refine AllReady.cons rfl (fun K hK => ?_) AllReady.nil
            go_simp
            go_wp2_with ((go_at_call 79; (with_reducible refine HFX.out.mono ?_); rintro _ w4 ⟨rfl, hb⟩; (have HB4 := Lib.hid (HB3.out.next ((Below.refl wc.heap.size wc).drew.trans hb))); (have v0 := below_cell' hb (show wc.drew.cell? _ = _ from i0)); (have v1 := below_cell' hb (show wc.drew.cell? _ = _ from i1)); (have X2 := below_cell' hb (show wc.drew.cell? _ = _ from x2)); (have X2S := idAt_off HB4.out HG.out X2 (.int .i64 c) (.int .i64 b)); (have s0 := HB4.out.s0); (have s1 := HB4.out.s1); (have t0 := HB4.out.t 0); (have t1 := HB4.out.t 1)))
            refine wpAny_take (i := 3) (v := .bool false) rfl (by kernel_rfl) (by kernel_rfl) (by kernel_rfl) (fun _ _ _ h => h) (Or.inl ⟨rfl, ?_⟩) ?_
            · intro w; go_simp
            refine wpAny_take (i := 4) (v := undef) rfl (by kernel_rfl) (by kernel_rfl) (by kernel_rfl) (fun _ _ _ h => h) (Or.inr ⟨rfl, rfl⟩) ?_
            refine wpAny_take (i := 5) (v := undef) rfl (by kernel_rfl) (by kernel_rfl) (by kernel_rfl) (fun _ _ _ h => h) (Or.inr ⟨rfl, rfl⟩) ?_
            refine wpAny_take (i := 6) (v := undef) rfl (by kernel_rfl) (by kernel_rfl) (by kernel_rfl) (fun _ _ _ h => h) (Or.inr ⟨rfl, rfl⟩) ?_
            refine wpAny_take (i := 7) (v := undef) rfl (by kernel_rfl) (by kernel_rfl) (by kernel_rfl) (fun _ _ _ h => h) (Or.inr ⟨rfl, rfl⟩) ?_
            refine wpAny_take (i := 8) (v := .bool false) rfl (by kernel_rfl) (by kernel_rfl) (by kernel_rfl) (fun _ _ _ h => h) (Or.inl ⟨rfl, ?_⟩) ?_
            · intro w; go_simp
            refine wpAny_ready (rs := [9]) (by kernel_rfl) (by simp) ?_
            refine AllReady.cons rfl (fun K hK => ?_) AllReady.nil
            go_simp
            refine hK _ _ ?_
            clear hK K
            refine wpAny_take (i := 10) (v := .bool false) rfl (by kernel_rfl) (by kernel_rfl) (by kernel_rfl) (fun _ _ _ h => h) (Or.inl ⟨rfl, ?_⟩) ?_
            · intro w; go_simp
            refine wpAny_done (by kernel_rfl) ?_ _
            go_wp2_with fail
            refine bodyPost_ret (results_cells_tmp rfl _ _ w.heap.size [.int .i64 c, .int .i64 b] _ rfl (HB4.out.two _ _) Tryz.underlying38 rfl id_info2) rfl ⟨by rw [G.out]; rfl, HB4.out.end _ _⟩
          · go_simp
            refine hK _ _ ?_
            clear hK K
            refine wpAny_ready (rs := [0, 2]) (by kernel_rfl) (by simp) ?_
            refine AllReady.cons rfl (fun K hK => ?_) (AllReady.cons rfl (fun K hK => ?_) AllReady.nil)
            · go_simp
              refine hK _ _ ?_
              clear hK K
              refine wpAny_ready (rs := [2]) (by kernel_rfl) (by simp) ?_
              refine AllReady.cons rfl (fun K hK => ?_) AllReady.nil
              go_simp
              go_wp2_with ((go_at_call 79; (with_reducible refine HFX.out.mono ?_); rintro _ w4 ⟨rfl, hb⟩; (have HB4 := Lib.hid (HB3.out.next ((Below.refl wc.heap.size wc).drew.trans hb))); (have v0 := below_cell' hb (show wc.drew.cell? _ = _ from i0)); (have v1 := below_cell' hb (show wc.drew.cell? _ = _ from i1)); (have X2 := below_cell' hb (show wc.drew.cell? _ = _ from x2)); (have X2S := idAt_off HB4.out HG.out X2 (.int .i64 c) (.int .i64 b)); (have s0 := HB4.out.s0); (have s1 := HB4.out.s1); (have t0 := HB4.out.t 0); (have t1 := HB4.out.t 1)))
              refine wpAny_take (i := 3) (v := .bool false) rfl (by kernel_rfl) (by kernel_rfl) (by kernel_rfl) (fun _ _ _ h => h) (Or.inl ⟨rfl, ?_⟩) ?_
              · intro w; go_simp
              refine wpAny_take (i := 4) (v := undef) rfl (by kernel_rfl) (by kernel_rfl) (by kernel_rfl) (fun _ _ _ h => h) (Or.inr ⟨rfl, rfl⟩) ?_
              refine wpAny_take (i := 5) (v := undef) rfl (by kernel_rfl) (by kernel_rfl) (by kernel_rfl) (fun _ _ _ h => h) (Or.inr ⟨rfl, rfl⟩) ?_
              refine wpAny_take (i := 6) (v := undef) rfl (by kernel_rfl) (by kernel_rfl) (by kernel_rfl) (fun _ _ _ h => h) (Or.inr ⟨rfl, rfl⟩) ?_
              refine wpAny_take (i := 7) (v := undef) rfl (by kernel_rfl) (by kernel_rfl) (by kernel_rfl) (fun _ _ _ h => h) (Or.inr ⟨rfl, rfl⟩) ?_
              refine wpAny_take (i := 8) (v := .bool false) rfl (by kernel_rfl) (by kernel_rfl) (by kernel_rfl) (fun _ _ _ h => h) (Or.inl ⟨rfl, ?_⟩) ?_
              · intro w; go_simp
              refine wpAny_ready (rs := [9]) (by kernel_rfl) (by simp) ?_
              refine AllReady.cons rfl (fun K hK => ?_) AllReady.nil
              go_simp
              refine hK _ _ ?_
              clear hK K
              refine wpAny_take (i := 10) (v := .bool false) rfl (by kernel_rfl) (by kernel_rfl) (by kernel_rfl) (fun _ _ _ h => h) (Or.inl ⟨rfl, ?_⟩) ?_
              · intro w; go_simp
              refine wpAny_done (by kernel_rfl) ?_ _
              go_wp2_with fail
              refine bodyPost_ret (results_cells_tmp rfl _ _ w.heap.size [.int .i64 c, .int .i64 b] _ rfl (HB4.out.two _ _) Tryz.underlying38 rfl id_info2) rfl ⟨by rw [G.out]; rfl, HB4.out.end _ _⟩
            · go_simp
              go_wp2_with ((go_at_call 79; (with_reducible refine HFX.out.mono ?_); rintro _ w4 ⟨rfl, hb⟩; (have HB4 := Lib.hid (HB3.out.next ((Below.refl wc.heap.size wc).drew.trans hb))); (have v0 := below_cell' hb (show wc.drew.cell? _ = _ from i0)); (have v1 := below_cell' hb (show wc.drew.cell? _ = _ from i1)); (have X2 := below_cell' hb (show wc.drew.cell? _ = _ from x2)); (have X2S := idAt_off HB4.out HG.out X2 (.int .i64 c) (.int .i64 b)); (have s0 := HB4.out.s0); (have s1 := HB4.out.s1); (have t0 := HB4.out.t 0); (have t1 := HB4.out.t 1)))
              refine wpAny_take (i := 3) (v := .bool false) rfl (by kernel_rfl) (by kernel_rfl) (by kernel_rfl) (fun _ _ _ h => h) (Or.inl ⟨rfl, ?_⟩) ?_
              · intro w; go_simp
              refine wpAny_take (i := 4) (v := undef) rfl (by kernel_rfl) (by kernel_rfl) (by kernel_rfl) (fun _ _ _ h => h) (Or.inr ⟨rfl, rfl⟩) ?_
              refine wpAny_take (i := 5) (v := undef) rfl (by kernel_rfl) (by kernel_rfl) (by kernel_rfl) (fun _ _ _ h => h) (Or.inr ⟨rfl, rfl⟩) ?_
              refine wpAny_take (i := 6) (v := undef) rfl (by kernel_rfl) (by kernel_rfl) (by kernel_rfl) (fun _ _ _ h => h) (Or.inr ⟨rfl, rfl⟩) ?_
              refine wpAny_take (i := 7) (v := undef) rfl (by kernel_rfl) (by kernel_rfl) (by kernel_rfl) (fun _ _ _ h => h) (Or.inr ⟨rfl, rfl⟩) ?_
              refine wpAny_take (i := 8) (v := .bool false) rfl (by kernel_rfl) (by kernel_rfl) (by kernel_rfl) (fun _ _ _ h => h) (Or.inl ⟨rfl, ?_⟩) ?_
              · intro w; go_simp
              refine wpAny_ready (rs := [0]) (by kernel_rfl) (by simp) ?_
              refine AllReady.cons rfl (fun K hK => ?_) AllReady.nil
              go_simp
              refine hK _ _ ?_
              clear hK K
              refine wpAny_ready (rs := [9]) (by kernel_rfl) (by simp) ?_
              refine AllReady.cons rfl (fun K hK => ?_) AllReady.nil
              go_simp
              refine hK _ _ ?_
              clear hK K
              refine wpAny_take (i := 10) (v := .bool false) rfl (by kernel_rfl) (by kernel_rfl) (by kernel_rfl) (fun _ _ _ h => h) (Or.inl ⟨rfl, ?_⟩) ?_
              · intro w; go_simp
              refine wpAny_done (by kernel_rfl) ?_ _
              go_wp2_with fail
              refine bodyPost_ret (results_cells_tmp rfl _ _ w.heap.size [.int .i64 c, .int .i64 b] _ rfl (HB4.out.two _ _) Tryz.underlying38 rfl id_info2) rfl ⟨by rw [G.out]; rfl, HB4.out.end _ _⟩
        · obtain ⟨pv, hpv⟩ : ∃ pv, (bits .and .i64 y.flags 2 == 0) = pv := ⟨_, rfl⟩
          have G : Hid (R = (bits .and .i64 y.flags 2 == 0)) := Lib.hid (by rw [HO2.out]; rfl)
          clear HO2 hpv
          go_wp2_with fail
          go_region_with (first | (go_at_call 79; (with_reducible refine HFX.out.mono ?_); rintro _ w4 ⟨rfl, hb⟩; (have HB4 := Lib.hid (HB3.out.next ((Below.refl wc.heap.size wc).drew.trans hb))); (have v0 := below_cell' hb (show wc.drew.cell? _ = _ from i0)); (have v1 := below_cell' hb (show wc.drew.cell? _ = _ from i1)); (have X2 := below_cell' hb (show wc.drew.cell? _ = _ from x2)); (have X2S := idAt_off HB4.out HG.out X2 (.int .i64 c) (.int .i64 b)); (have s0 := HB4.out.s0); (have s1 := HB4.out.s1); (have t0 := HB4.out.t 0); (have t1 := HB4.out.t 1)))
          all_goals
            go_wp2_with fail
            refine bodyPost_ret (results_cells_tmp rfl _ _ w.heap.size [.int .i64 c, .int .i64 b] _ rfl (HB4.out.two _ _) Tryz.underlying38 rfl id_info2) rfl ⟨by rw [G.out]; rfl, HB4.out.end _ _⟩
    · have G : Hid (R = false) := Lib.hid (by rw [HO.out]; rfl)
      have s0 := HB2.out.s0
      have s1 := HB2.out.s1
      have t0 := HB2.out.t 0
      have t1 := HB2.out.t 1
      go_wp2
      refine bodyPost_ret (results_cells_tmp rfl _ _ w.heap.size [.int .i64 c, .int .i64 b] _ rfl (HB2.out.two _ _) Tryz.underlying38 rfl id_info2) rfl ⟨by rw [G.out]; rfl, HB2.out.end _ _⟩
  · have G : Hid ((ownM m x.name x.desc c).isSome = false) := Lib.hid (by rw [own_none (.inl he)]; rfl)
    rw [G.out]
    have he' : ((findH m (c : Int) x.name x.desc).2 != 0) = true := by simpa using he
    generalize findH m (c : Int) x.name x.desc = f at *
    obtain ⟨k, er⟩ := f
    simp only at he' HF ⊢
    clear h hq he HI G HQ
    go_enter Tryz.func80, Tryz.ntmps80
    go_wp2_with fail
    obtain ⟨ws, hws⟩ : ∃ ws, (w.alloc (.cells #[.int .i64 0, .int .i64 0] 38)) = ws := ⟨_, rfl⟩
    rw [hws] at HS z0 z3 z4 ⊢
    clear hws
    have k0 := cell_regrown z0
    have k3 := cell_regrown z3
    have k4 := cell_regrown z4
    have cF : ∀ d os, Calls Tryz.prog 29 #[.pointer (some ⟨bw, 0, none⟩), .int .i64 c, .string x.name, .string x.desc] (grow (redrawn ws d) os) fun e w'' => e = .returned (.tuple #[.int .i64 k, .int .i64 er]) ∧ ∃ p : Regrown, w'' = grow (redrawn ws p.d) p.os := fun d os => Calls.regrown_of (HF.out _ (HS.out.bel.trans ((below_regrown ws d os).mono HS.out.bel.size)))
    refine wp_region_quiet_below (by kernel_rfl) (by kernel_rfl) ?_
    repeat (quiet_step (exact cF _ _))
    refine wpQuiet_nil ?_
    intro _ hw'
    obtain ⟨⟨dq, osq⟩, hw''⟩ := hw'
    subst hw''
    have hb := below_regrown ws dq osq
    clear cF k0 k3 k4
    generalize grow (redrawn ws dq) osq = w1 at hb ⊢
    obtain ⟨wx, hwx⟩ : ∃ wx, (w1.alloc (.cells #[.int .i64 c, .int .i64 k] 38)) = wx := ⟨_, rfl⟩
    have hbx : Below w1.heap.size w1 wx := by rw [← hwx]; exact (Below.refl _ _).alloc (Nat.le_refl _) _
    have i0 : wx.cell? ⟨w1.heap.size, 0, none⟩ = some (.int .i64 c) := by rw [← hwx]; exact World.cell?_alloc_new ..
    have i1 : wx.cell? ⟨w1.heap.size, 1, none⟩ = some (.int .i64 k) := by rw [← hwx]; exact World.cell?_alloc_new ..
    have HB1 := Lib.hid (HS.out.next (hb.trans (hbx.mono hb.size)))
    have s0 := HB1.out.s0
    have s1 := HB1.out.s1
    have t0 := HB1.out.t 0
    have t1 := HB1.out.t 1
    clear hb hbx HF HS z0 z3 z4
    go_wp2_with fail
    try rw [hwx]
    clear hwx
    refine bodyPost_ret (results_cells_tmp rfl _ _ w.heap.size [.int .i64 c, .int .i64 k] _ rfl (HB1.out.two _ _) Tryz.underlying38 rfl id_info2) rfl ⟨rfl, HB1.out.end _ _⟩
end Go.Proofs.YtipinmbpdgjalaaGreatDoor.Hi
/- Overriding: is a method among others; does one of them have a property? -/
set_option maxRecDepth 100000
set_option maxHeartbeats 1000000
set_option linter.unusedVariables false
set_option linter.unusedSimpArgs false
namespace Go.Proofs.YtipinmbpdgjalaaGreatDoor.Hi
open Go.RowKit Bs

def idO (p : Int × Int) : Value := .agg #[.int .i64 p.1, .int .i64 p.2]
/-- The place of the first that has a property, or -1. -/
def idxO (pr : Int × Int → Bool) (xs : List (Int × Int)) : Int := match xs.findIdx? pr with | some i => (i : Int) | none => -1
theorem idxO_any (pr : Int × Int → Bool) (xs : List (Int × Int)) : decide (0 ≤ idxO pr xs) = xs.any pr := by
  unfold idxO
  cases h : xs.findIdx? pr with
  | some i =>
    have : xs.any pr = true := by
      obtain ⟨hi, h1, _⟩ := List.findIdx?_eq_some_iff_getElem.1 h
      exact List.any_eq_true.2 ⟨_, List.getElem_mem hi, h1⟩
    rw [this]
    exact decide_eq_true (by simp)
  | none =>
    have : xs.any pr = false := by
      rw [List.any_eq_false]
      intro x hx
      simpa using List.findIdx?_eq_none_iff.1 h x hx
    rw [this]
    exact decide_eq_false (by simp)

theorem IndexO {w : World} {a : Option Addr} {cap : Nat} {xs : List (Int × Int)} (pr : Int × Int → Bool) (caps : Array Value) (hm : IdSl (fun b => b < w.heap.size) w (.slice a xs.length cap) xs)
    (hf : ∀ wr, Below w.heap.size w wr → ∀ k (hk : k < xs.length), Calls Tryz.prog 82 (#[idO xs[k]] ++ caps) wr fun r w' => r = .returned (.bool (pr xs[k])) ∧ Below wr.heap.size wr w') :
    Calls Tryz.prog 92 #[.slice a xs.length cap, .func (.func 82) #[] caps] w fun e w' => e = .returned (.int .i64 (idxO pr xs)) ∧ Below w.heap.size w w' := by
  have HM := Lib.hid hm
  have HF := Lib.hid hf
  have hby : xs.length * 16 ≤ 140737488355328 := by obtain ⟨_, _, _, _, h, _⟩ := hm; exact h
  clear hm hf
  go_enter Tryz.func92, Tryz.ntmps92
  go_wp2_with fail
  go_loopg [5, 8] xs.length (fun gk _ u wr => ∃ k : Nat, Hid (k + gk = xs.length ∧ ∀ j (h : j < xs.length), j < k → pr xs[j] = false) ∧ u = .int .i64 k ∧ Hid (Below w.heap.size w wr))
  case atStart => exact ⟨0, Lib.hid ⟨Nat.zero_add _, fun j h hj => by omega⟩, rfl, Lib.hid (Below.refl _ _)⟩
  case round =>
    obtain ⟨k, hk, rfl, hB⟩ := hrel
    by_cases hlt : k < xs.length
    · have hlt' : (k : Int) < (xs.length : Int) := by omega
      obtain ⟨b, o, rfl, g0, g1⟩ := IdSl.elem (HM.out.alike (Alike.of_below hB.out fun _ h => h)) hlt
      have HHIT : Hid (pr xs[k] = true → idxO pr xs = (k : Int)) := Lib.hid fun h => by
        unfold idxO
        rw [List.findIdx?_eq_some_iff_getElem.2 ⟨hlt, h, fun j hj => by simp [hk.out.2 j (by omega) hj]⟩]
      have HNEXT : Hid (pr xs[k] = false → ∀ j (h : j < xs.length), j < k + 1 → pr xs[j] = false) := Lib.hid fun h j hj hjk => by
        by_cases e : j = k
        · subst e; exact h
        · exact hk.out.2 j hj (by omega)
      have HC := Lib.hid (HF.out wr hB.out k hlt)
      generalize pr xs[k] = hit at HHIT HNEXT HC
      unfold idO at HC
      generalize xs[k] = x at g0 g1 HC
      go_wp2_with fail
      refine HC.out.mono ?_
      rintro e w1 ⟨rfl, hb1⟩
      have HB1 : Hid (Below w.heap.size w w1) := Lib.hid (hB.out.trans (hb1.mono hB.out.size))
      clear hb1 g0 g1
      cases hit
      · have G := Lib.hid (HNEXT.out rfl)
        go_wp2
        go_roundg (xs.length - (k + 1))
        case measure => have := hk.out.1; omega
        case rel => exact ⟨k + 1, Lib.hid ⟨by omega, G.out⟩, by go_num, HB1⟩
      · have G := Lib.hid (HHIT.out rfl)
        go_wp2
        go_ret
        exact ⟨by rw [G.out]; rfl, HB1.out⟩
    · have F : Hid (idxO pr xs = -1) := Lib.hid (by
        unfold idxO
        rw [List.findIdx?_eq_none_iff.2 (fun x hx => by
          obtain ⟨j, hj, rfl⟩ := List.getElem_of_mem hx
          exact hk.out.2 j hj (by omega))])
      go_wp2
      go_ret
      exact ⟨by rw [F.out]; rfl, hB.out⟩
theorem ContO {w : World} {a : Option Addr} {cap : Nat} {xs : List (Int × Int)} (pr : Int × Int → Bool) (caps : Array Value) (hm : IdSl (fun b => b < w.heap.size) w (.slice a xs.length cap) xs)
    (hf : ∀ wr, Below w.heap.size w wr → ∀ k (hk : k < xs.length), Calls Tryz.prog 82 (#[idO xs[k]] ++ caps) wr fun r w' => r = .returned (.bool (pr xs[k])) ∧ Below wr.heap.size wr w') :
    Calls Tryz.prog 81 #[.slice a xs.length cap, .func (.func 82) #[] caps] w fun e w' => e = .returned (.bool (xs.any pr)) ∧ Below w.heap.size w w' := by
  have HI := Lib.hid (IndexO pr caps hm hf)
  rw [← idxO_any]
  generalize idxO pr xs = r at HI
  clear hm hf
  go_enter Tryz.func81, Tryz.ntmps81
  go_wp2_with fail
  refine HI.out.mono ?_
  rintro e w1 ⟨rfl, hb⟩
  have HB := Lib.hid hb
  clear hb HI
  go_wp2
  go_ret
  exact ⟨rfl, HB.out⟩

def sameP (p y : Int × Int) : Bool := (p.1 == y.1) && (p.2 == y.2)
theorem any_contains (p : Int × Int) (xs : List (Int × Int)) : xs.any (sameP p) = xs.contains p := by
  rw [Bool.eq_iff_iff, List.any_eq_true, List.contains_iff_mem]
  constructor
  · rintro ⟨y, hy, h⟩
    unfold sameP at h
    simp only [Bool.and_eq_true, beq_iff_eq] at h
    obtain rfl : p = y := Prod.ext h.1 h.2
    exact hy
  · intro h
    exact ⟨p, h, by unfold sameP; simp⟩
theorem IndexV {w : World} {a : Option Addr} {cap : Nat} {xs : List (Int × Int)} (p : Int × Int) (hm : IdSl (fun b => b < w.heap.size) w (.slice a xs.length cap) xs) :
    Calls Tryz.prog 77 #[.slice a xs.length cap, .agg #[.int .i64 p.1, .int .i64 p.2]] w fun e w' => e = .returned (.int .i64 (idxO (sameP p) xs)) ∧ Below w.heap.size w w' := by
  have hba : Below w.heap.size w (w.alloc (.cells #[.int .i64 p.1, .int .i64 p.2] 38)) := (Below.refl _ _).alloc (Nat.le_refl _) _
  have q0 : (w.alloc (.cells #[.int .i64 p.1, .int .i64 p.2] 38)).cell? ⟨w.heap.size, 0, none⟩ = some (.int .i64 p.1) := World.cell?_alloc_new ..
  have q1 : (w.alloc (.cells #[.int .i64 p.1, .int .i64 p.2] 38)).cell? ⟨w.heap.size, 1, none⟩ = some (.int .i64 p.2) := World.cell?_alloc_new ..
  have HM := Lib.hid (IdSl.next hm hba)
  have HBA := Lib.hid hba
  have hby : xs.length * 16 ≤ 140737488355328 := by obtain ⟨_, _, _, _, h, _⟩ := hm; exact h
  clear hm hba
  go_enter Tryz.func77, Tryz.ntmps77
  go_wp2_with fail
  go_loopg [4, 8] xs.length (fun gk _ u wr => ∃ k : Nat, Hid (k + gk = xs.length ∧ ∀ j (h : j < xs.length), j < k → sameP p xs[j] = false) ∧ u = .int .i64 k ∧ Hid (Below (w.alloc (.cells #[.int .i64 p.1, .int .i64 p.2] 38)).heap.size (w.alloc (.cells #[.int .i64 p.1, .int .i64 p.2] 38)) wr))
  case atStart => exact ⟨0, Lib.hid ⟨Nat.zero_add _, fun j h hj => by omega⟩, rfl, Lib.hid (Below.refl _ _)⟩
  case round =>
    obtain ⟨k, hk, rfl, hB⟩ := hrel
    have p0 := below_cell' hB.out q0
    have p1 := below_cell' hB.out q1
    have HBB : Hid (Below w.heap.size w wr) := Lib.hid (HBA.out.trans (hB.out.mono HBA.out.size))
    by_cases hlt : k < xs.length
    · have hlt' : (k : Int) < (xs.length : Int) := by omega
      obtain ⟨b, o, rfl, g0, g1⟩ := IdSl.elem (HM.out.alike (Alike.of_below hB.out fun _ h => h)) hlt
      have HHIT : Hid (sameP p xs[k] = true → idxO (sameP p) xs = (k : Int)) := Lib.hid fun h => by
        unfold idxO
        rw [List.findIdx?_eq_some_iff_getElem.2 ⟨hlt, h, fun j hj => by simp [hk.out.2 j (by omega) hj]⟩]
      have HNEXT : Hid (sameP p xs[k] = false → ∀ j (h : j < xs.length), j < k + 1 → sameP p xs[j] = false) := Lib.hid fun h j hj hjk => by
        by_cases e : j = k
        · subst e; exact h
        · exact hk.out.2 j hj (by omega)
      have HSP : Hid (sameP p xs[k] = ((p.1 == xs[k].1) && (p.2 == xs[k].2))) := Lib.hid rfl
      generalize sameP p xs[k] = hit at HHIT HNEXT HSP
      generalize xs[k] = x at g0 g1 HSP
      obtain ⟨x1, x2⟩ := x
      obtain ⟨pa, pb⟩ := p
      simp only at HSP g0 g1 p0 p1 q0 q1
      by_cases h1 : pa = x1
      · by_cases h2 : pb = x2
        · subst h1; subst h2
          have G := Lib.hid (HHIT.out (by rw [HSP.out]; simp))
          clear HHIT HNEXT HSP
          go_wp2_with fail
          go_quiet (fail)
          go_wp2
          go_ret
          exact ⟨by rw [G.out]; rfl, below_drewN HBB.out _⟩
        · have h2' : (pb == x2) = false := by simpa using h2
          subst h1
          have G := Lib.hid (HNEXT.out (by rw [HSP.out, h2', Bool.and_false]))
          clear HHIT HNEXT HSP
          go_wp2_with fail
          go_quiet (fail)
          go_wp2
          go_roundg (xs.length - (k + 1))
          case measure => have := hk.out.1; omega
          case rel => exact ⟨k + 1, Lib.hid ⟨by have := hk.out.1; omega, G.out⟩, by go_num, Lib.hid (below_drewN hB.out _)⟩
      · have h1' : (pa == x1) = false := by simpa using h1
        have G := Lib.hid (HNEXT.out (by rw [HSP.out, h1', Bool.false_and]))
        clear HHIT HNEXT HSP
        go_wp2_with fail
        go_quiet (fail)
        go_wp2
        go_roundg (xs.length - (k + 1))
        case measure => have := hk.out.1; omega
        case rel => exact ⟨k + 1, Lib.hid ⟨by have := hk.out.1; omega, G.out⟩, by go_num, Lib.hid (below_drewN hB.out _)⟩
    · have F : Hid (idxO (sameP p) xs = -1) := Lib.hid (by
        unfold idxO
        rw [List.findIdx?_eq_none_iff.2 (fun x hx => by
          obtain ⟨j, hj, rfl⟩ := List.getElem_of_mem hx
          exact hk.out.2 j hj (by omega))])
      go_wp2
      go_ret
      exact ⟨by rw [F.out]; rfl, HBB.out⟩
theorem ContV {w : World} {a : Option Addr} {cap : Nat} {xs : List (Int × Int)} (p : Int × Int) (hm : IdSl (fun b => b < w.heap.size) w (.slice a xs.length cap) xs) :
    Calls Tryz.prog 45 #[.slice a xs.length cap, .agg #[.int .i64 p.1, .int .i64 p.2]] w fun e w' => e = .returned (.bool (xs.contains p)) ∧ Below w.heap.size w w' := by
  have hba : Below w.heap.size w (w.alloc (.cells #[.int .i64 p.1, .int .i64 p.2] 38)) := (Below.refl _ _).alloc (Nat.le_refl _) _
  have q0 : (w.alloc (.cells #[.int .i64 p.1, .int .i64 p.2] 38)).cell? ⟨w.heap.size, 0, none⟩ = some (.int .i64 p.1) := World.cell?_alloc_new ..
  have q1 : (w.alloc (.cells #[.int .i64 p.1, .int .i64 p.2] 38)).cell? ⟨w.heap.size, 1, none⟩ = some (.int .i64 p.2) := World.cell?_alloc_new ..
  have HI := Lib.hid (IndexV p (IdSl.next hm hba))
  have HBA := Lib.hid hba
  rw [← any_contains, ← idxO_any]
  generalize idxO (sameP p) xs = r at HI
  clear hm hba
  go_enter Tryz.func45, Tryz.ntmps45
  go_wp2_with fail
  refine HI.out.mono ?_
  rintro e w1 ⟨rfl, hb⟩
  have HB := Lib.hid (HBA.out.trans (hb.mono HBA.out.size))
  clear hb HI
  go_wp2
  go_ret
  exact ⟨rfl, HB.out⟩
end Go.Proofs.YtipinmbpdgjalaaGreatDoor.Hi
/- Overriding: the asker, its closure, all that override one. -/
set_option maxRecDepth 100000
set_option maxHeartbeats 2000000
set_option linter.unusedVariables false
set_option linter.unusedSimpArgs false
namespace Go.Proofs.YtipinmbpdgjalaaGreatDoor.Hi
open Go.RowKit Bs

theorem OAsk {B bw : Nat} {w0 w : World} {m : List EntM} (h : Built B bw w0 w m) {a b : Nat} (ha : a < m.length) (hb : b < m[a].c.meths.length) :
    Calls Tryz.prog 44 #[.pointer (some ⟨bw, 0, none⟩), .agg #[.int .i64 a, .int .i64 b]] w fun r w' => ∃ q : Nat, r = .returned (.tuple #[.pointer (some ⟨q, 0, none⟩), .int .i64 0]) ∧ AskAt w' q bw ((a : Int), (b : Int)) m[a].c.meths[b] ∧ Below w.heap.size w w' := by
  have hba : Below w.heap.size w (w.alloc (.cells #[.int .i64 a, .int .i64 b] 38)) := (Below.refl _ _).alloc (Nat.le_refl _) _
  have HB := Lib.hid hba
  have HM := Lib.hid (Method2 (h.next hba) ha hb)
  have q0 : (w.alloc (.cells #[.int .i64 a, .int .i64 b] 38)).cell? ⟨w.heap.size, 0, none⟩ = some (.int .i64 a) := World.cell?_alloc_new ..
  have q1 : (w.alloc (.cells #[.int .i64 a, .int .i64 b] 38)).cell? ⟨w.heap.size, 1, none⟩ = some (.int .i64 b) := World.cell?_alloc_new ..
  generalize m[a].c.meths[b] = x at *
  clear h hba hb
  go_enter Tryz.func44, Tryz.ntmps44
  go_wp2_with fail
  refine HM.out.mono ?_
  rintro _ w1 ⟨ad, l, c, rfl, hb⟩
  obtain ⟨wx, hwx⟩ : ∃ wx, (w1.alloc (.cells #[.string x.name, .string x.desc, .int .i64 x.flags, .int .i64 x.locals, .int .i64 x.stack, .slice ad l c] 55)) = wx := ⟨_, rfl⟩
  have hbx : Below w1.heap.size w1 wx := by rw [← hwx]; exact (Below.refl _ _).alloc (Nat.le_refl _) _
  have x0 : wx.cell? ⟨w1.heap.size, 0, none⟩ = some (.string x.name) := by rw [← hwx]; exact World.cell?_alloc_new ..
  have x1 : wx.cell? ⟨w1.heap.size, 1, none⟩ = some (.string x.desc) := by rw [← hwx]; exact World.cell?_alloc_new ..
  have x2 : wx.cell? ⟨w1.heap.size, 2, none⟩ = some (.int .i64 x.flags) := by rw [← hwx]; exact World.cell?_alloc_new ..
  have x3 : wx.cell? ⟨w1.heap.size, 3, none⟩ = some (.int .i64 x.locals) := by rw [← hwx]; exact World.cell?_alloc_new ..
  have x4 : wx.cell? ⟨w1.heap.size, 4, none⟩ = some (.int .i64 x.stack) := by rw [← hwx]; exact World.cell?_alloc_new ..
  have x5 : wx.cell? ⟨w1.heap.size, 5, none⟩ = some (.slice ad l c) := by rw [← hwx]; exact World.cell?_alloc_new ..
  have hb1 := hb.trans (hbx.mono hb.size)
  have HB1 := Lib.hid (HB.out.trans (hb1.mono HB.out.size))
  have p0 := below_cell' hb1 q0
  have p1 := below_cell' hb1 q1
  clear hb hbx hb1 HM HB q0 q1
  go_wp2_with fail
  try rw [hwx]
  clear hwx
  go_ret2
  exact ⟨_, rfl, ⟨World.cell?_alloc_new .., World.cell?_alloc_new .., World.cell?_alloc_new .., World.cell?_alloc_new .., World.cell?_alloc_new .., World.cell?_alloc_new .., World.cell?_alloc_new .., World.cell?_alloc_new .., ⟨_, _, _, World.cell?_alloc_new ..⟩⟩, HB1.out.alloc HB1.out.size _⟩
theorem OAsk_bad {bw : Nat} {w : World} {a b : Int}
    (HM0 : ∀ wr, Below w.heap.size w wr → Calls Tryz.prog 28 #[.pointer (some ⟨bw, 0, none⟩), .agg #[.int .i64 a, .int .i64 b]] wr fun r w' => r = .returned (.tuple #[zeroMeth, .int .i64 3]) ∧ Below wr.heap.size wr w') :
    Calls Tryz.prog 44 #[.pointer (some ⟨bw, 0, none⟩), .agg #[.int .i64 a, .int .i64 b]] w fun r w' => r = .returned (.tuple #[.pointer none, .int .i64 3]) ∧ Below w.heap.size w w' := by
  have hba : Below w.heap.size w (w.alloc (.cells #[.int .i64 a, .int .i64 b] 38)) := (Below.refl _ _).alloc (Nat.le_refl _) _
  have HB := Lib.hid hba
  have HM := Lib.hid (HM0 _ hba)
  have q0 : (w.alloc (.cells #[.int .i64 a, .int .i64 b] 38)).cell? ⟨w.heap.size, 0, none⟩ = some (.int .i64 a) := World.cell?_alloc_new ..
  have q1 : (w.alloc (.cells #[.int .i64 a, .int .i64 b] 38)).cell? ⟨w.heap.size, 1, none⟩ = some (.int .i64 b) := World.cell?_alloc_new ..
  clear hba HM0
  unfold zeroMeth at HM
  go_enter Tryz.func44, Tryz.ntmps44
  go_wp2_with fail
  refine HM.out.mono ?_
  rintro _ w1 ⟨rfl, hb⟩
  have HB1 := Lib.hid ((HB.out.trans (hb.mono HB.out.size)).alloc (Nat.le_trans HB.out.size hb.size) (.cells #[Value.string ⟨#[]⟩, .string ⟨#[]⟩, .int .i64 0, .int .i64 0, .int .i64 0, .slice none 0 0] 55))
  clear hb HM HB q0 q1
  go_wp2
  go_ret2
  exact ⟨rfl, HB1.out⟩

theorem ODown1 {B bw : Nat} {w0 w : World} {m : List EntM} (h : Built B bw w0 w m) {q qq cb : Nat} {a0 : Int × Int} {x0 : MethM} (hq : AskAt w q bw a0 x0) {c a b : Nat} (hqq : w.cell? ⟨qq, 0, none⟩ = some (.pointer (some ⟨q, 0, none⟩))) (hcb : w.cell? ⟨cb, 0, none⟩ = some (.int .i64 c)) (hc : c < m.length) (ha : a < m.length) (hb : b < m[a].c.meths.length) :
    Calls Tryz.prog 82 #[.agg #[.int .i64 a, .int .i64 b], .pointer (some ⟨qq, 0, none⟩), .pointer (some ⟨cb, 0, none⟩)] w fun r w' => r = .returned (.bool (seenM m c ((a : Int), (b : Int)))) ∧ Below w.heap.size w w' := by
  have hba : Below w.heap.size w (w.alloc (.cells #[.int .i64 a, .int .i64 b] 38)) := (Below.refl _ _).alloc (Nat.le_refl _) _
  have HB := Lib.hid hba
  have HS := Lib.hid (OSeen (h.next hba) (hq.next hba) hc ha hb)
  have q0 : (w.alloc (.cells #[.int .i64 a, .int .i64 b] 38)).cell? ⟨w.heap.size, 0, none⟩ = some (.int .i64 a) := World.cell?_alloc_new ..
  have q1 : (w.alloc (.cells #[.int .i64 a, .int .i64 b] 38)).cell? ⟨w.heap.size, 1, none⟩ = some (.int .i64 b) := World.cell?_alloc_new ..
  have k0 := below_cell' hba hqq
  have k1 := below_cell' hba hcb
  generalize seenM m c ((a : Int), (b : Int)) = R at *
  clear h hba hq hb hqq hcb
  go_enter Tryz.func82, Tryz.ntmps82
  go_wp2_with fail
  refine HS.out.mono ?_
  rintro _ w1 ⟨rfl, hb⟩
  have HB1 := Lib.hid (HB.out.trans (hb.mono HB.out.size))
  clear hb
  go_wp2
  go_ret
  exact ⟨rfl, HB1.out⟩
end Go.Proofs.YtipinmbpdgjalaaGreatDoor.Hi
