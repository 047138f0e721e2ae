/- Overriding: the plain law. -/
import Derived.Test.YtiiebakblkpkeaaGreatDoorFd
import Derived.Test.YtiiebakblkpkeaaGreatDoorRc
set_option maxRecDepth 100000
set_option linter.unusedVariables false
set_option linter.unusedSimpArgs false
namespace Go.Proofs.YtiiebakblkpkeaaGreatDoor.Hi
open Go.RowKit Bs

def statF (f : Int) : Bool := bits .and .i64 f 8 != 0
def privF (f : Int) : Bool := bits .and .i64 f 2 != 0
def initN : ByteArray := ⟨#[60, 105, 110, 105, 116, 62]⟩
def freeX (x : MethM) : Bool := !statF x.flags && !(x.name.toList == initN.toList)
/-- A method by its place. -/
def methAt (m : List EntM) (p : Int × Int) : Option MethM := match entAt m p.1 with
  | none => none
  | some e => if 0 ≤ p.2 then e.c.meths[p.2.toNat]? else none
def flO (m : List EntM) (p : Int × Int) : Int := match methAt m p with
  | none => 0
  | some x => x.flags
def seenM (m : List EntM) (c : Int) (b : Int × Int) : Bool := if isIfaceM m b.1 = true then openM (flO m b) != 2 else (openM (flO m b) == 1 || (openM (flO m b) == 4 || (openM (flO m b) == 0 && sameM m c b.1)))
/-- A class's own method of a name, if it may override. -/
def ownM (m : List EntM) (n d : ByteArray) (c : Int) : Option (Int × Int) :=
  if (findH m c n d).2 = 0 ∧ isIfaceM m c = false then (match methAt m (c, (findH m c n d).1) with
    | none => none
    | some x => if (freeX x && !privF x.flags) = true then some (c, (findH m c n d).1) else none)
  else none
def stepM (m : List EntM) (n d : ByteArray) (a : Int × Int) (L : List (Int × Int)) (c : Int) : List (Int × Int) := match ownM m n d c with
  | none => L
  | some id => if (c == a.1 || !extM m c a.1) = true then L else if L.any (seenM m c) = true then L ++ [id] else L
def downL (m : List EntM) (a : Int × Int) (r : Nat) : List (Int × Int) := if ((ch m r).contains a.1 || isIfaceM m a.1) = true then [a] else []
/-- All that override a, in a chain. -/
def downM (m : List EntM) (x : MethM) (a : Int × Int) (r : Nat) : List (Int × Int) :=
  if statF x.flags = true then [] else if freeX x = true then (ch m r).reverse.foldl (stepM m x.name x.desc a) (downL m a r) else downL m a r
/-- Does c override a, whose method is x? -/
def ovM (m : List EntM) (c a : Int × Int) (x : MethM) : Bool := (downM m x a c.1.toNat).contains c
def plainM (m : List EntM) (c a : Int × Int) (x : MethM) : Bool := (ownM m x.name x.desc c.1 == some c) && freeX x && (c.1 != a.1) && extM m c.1 a.1 && seenM m c.1 a

/-- Does c override a? The error. -/
def ovR (m : List EntM) (c a : Int × Int) : Bool × Int := match methAt m a, methAt m c with
  | some x, some _ => (ovM m c a x, 0)
  | _, _ => (false, 3)
def plR (m : List EntM) (c a : Int × Int) : Bool × Int := match methAt m a, methAt m c with
  | some x, some _ => (plainM m c a x, 0)
  | _, _ => (false, 3)
theorem methAt_some {m : List EntM} {p : Int × Int} {x : MethM} (h : methAt m p = some x) : ∃ (i j : Nat) (hi : i < m.length) (hj : j < m[i].c.meths.length), p = ((i : Int), (j : Int)) ∧ m[i].c.meths[j] = x := by
  unfold methAt at h
  cases he : entAt m p.1 with
  | none => rw [he] at h; cases h
  | some e =>
    rw [he] at h
    obtain ⟨i, e1, hi, e2⟩ := entAt_some he
    simp only at h
    split at h
    · next h0 =>
      obtain ⟨hj, e3⟩ := List.getElem?_eq_some_iff.1 h
      refine ⟨i, p.2.toNat, hi, by rw [e2]; exact hj, ?_, by simp only [e2]; exact e3⟩
      apply Prod.ext
      · exact e1
      · show p.2 = ((p.2.toNat : Nat) : Int)
        omega
    · cases h
theorem mEq_some {n d : ByteArray} {x : MethM} (h : Pr.mEq n d x = true) : x.name = n ∧ x.desc = d := by
  unfold Pr.mEq at h
  rw [str_eq, str_eq, Bool.and_eq_true, decide_eq_true_iff, decide_eq_true_iff] at h
  exact h
theorem own_spec {m : List EntM} {n d : ByteArray} {c : Int} {id : Int × Int} (h : ownM m n d c = some id) : id.1 = c ∧ isIfaceM m c = false ∧ ∃ x, methAt m id = some x ∧ x.name = n ∧ x.desc = d ∧ freeX x = true := by
  unfold ownM at h
  split at h
  · next hc =>
    cases hm : methAt m (c, (findH m c n d).1) with
    | none => rw [hm] at h; cases h
    | some x =>
      rw [hm] at h
      simp only at h
      split at h
      · next hf =>
        have hid : (c, (findH m c n d).1) = id := Option.some.inj h
        rw [Bool.and_eq_true] at hf
        refine ⟨by rw [← hid], hc.2, x, by rw [← hid]; exact hm, ?_⟩
        have hx : Pr.mEq n d x = true := by
          have h1 := hc.1
          unfold findH at hm h1
          unfold methAt at hm
          cases he : entAt m c with
          | none => rw [he] at h1; simp at h1
          | some e =>
            simp only [he] at h1 hm
            by_cases hn : Pr.findM e.c.meths n d < 0
            · rw [if_pos hn] at h1; simp at h1
            · rw [if_neg hn] at hm
              unfold Pr.findM at hm hn
              cases hfi : e.c.meths.findIdx? (Pr.mEq n d) with
              | none => rw [hfi] at hn; simp at hn
              | some i =>
                simp only [hfi] at hm
                rw [if_pos (by omega)] at hm
                obtain ⟨hi, h2, _⟩ := List.findIdx?_eq_some_iff_getElem.1 hfi
                have hm' : e.c.meths[i]? = some x := by simpa using hm
                rw [List.getElem?_eq_getElem hi] at hm'
                rw [← Option.some.inj hm']
                exact h2
        exact ⟨(mEq_some hx).1, (mEq_some hx).2, hf.1⟩
      · cases h
  · cases h

theorem step_sub {m : List EntM} {n d : ByteArray} {a : Int × Int} {L : List (Int × Int)} (c : Int) {id : Int × Int} (h : id ∈ L) : id ∈ stepM m n d a L c := by
  unfold stepM
  split
  · exact h
  · split
    · exact h
    · split
      · exact List.mem_append_left _ h
      · exact h
theorem fold_sub {m : List EntM} {n d : ByteArray} {a : Int × Int} : ∀ (l : List Int) {L : List (Int × Int)} {id : Int × Int}, id ∈ L → id ∈ l.foldl (stepM m n d a) L
  | [], _, _, h => h
  | c :: l, L, id, h => fold_sub l (step_sub c h)
theorem fold_nil {m : List EntM} {n d : ByteArray} {a : Int × Int} : ∀ (l : List Int), l.foldl (stepM m n d a) [] = []
  | [] => rfl
  | c :: l => by
    have : stepM m n d a [] c = [] := by
      unfold stepM
      split
      · rfl
      · split
        · rfl
        · rfl
    rw [List.foldl_cons, this]
    exact fold_nil l
theorem fold_mem {m : List EntM} {n d : ByteArray} {a : Int × Int} : ∀ (l : List Int) {L : List (Int × Int)} {id : Int × Int}, id ∈ l.foldl (stepM m n d a) L → id ∈ L ∨ ∃ c ∈ l, ownM m n d c = some id ∧ c ≠ a.1 ∧ extM m c a.1 = true
  | [], _, _, h => .inl h
  | c :: l, L, id, h => by
    rcases fold_mem l h with h1 | ⟨c', h1, h2⟩
    · unfold stepM at h1
      cases ho : ownM m n d c with
      | none => rw [ho] at h1; exact .inl h1
      | some i =>
        rw [ho] at h1
        simp only at h1
        split at h1
        · exact .inl h1
        · next hc =>
          split at h1
          · rcases List.mem_append.1 h1 with h1 | h1
            · exact .inl h1
            · obtain rfl := List.mem_singleton.1 h1
              simp at hc
              exact .inr ⟨c, List.mem_cons_self .., ho, hc.1, hc.2⟩
          · exact .inl h1
    · exact .inr ⟨c', List.mem_cons_of_mem _ h1, h2⟩
theorem downL_mem {m : List EntM} {a id : Int × Int} {r : Nat} (h : id ∈ downL m a r) : id = a := by
  unfold downL at h
  split at h
  · exact List.mem_singleton.1 h
  · cases h
theorem down_mem {m : List EntM} {x : MethM} {a id : Int × Int} {r : Nat} (h : id ∈ downM m x a r) : statF x.flags = false ∧ (id = a ∨ (freeX x = true ∧ ∃ c ∈ ch m r, ownM m x.name x.desc c = some id ∧ c ≠ a.1 ∧ extM m c a.1 = true)) := by
  unfold downM at h
  cases hs : statF x.flags with
  | true => rw [hs] at h; simp at h
  | false =>
    rw [hs] at h
    refine ⟨rfl, ?_⟩
    simp only [Bool.false_eq_true, if_false] at h
    cases hf : freeX x with
    | true =>
      rw [hf] at h
      simp only [if_true] at h
      rcases fold_mem _ h with h1 | ⟨c, h1, h2⟩
      · exact .inl (downL_mem h1)
      · exact .inr ⟨rfl, c, List.mem_reverse.1 h1, h2⟩
    | false =>
      rw [hf] at h
      simp only [Bool.false_eq_true, if_false] at h
      exact .inl (downL_mem h)
theorem ov_mem {m : List EntM} {c a : Int × Int} {x : MethM} (h : ovM m c a x = true) : c ∈ downM m x a c.1.toNat := by
  unfold ovM at h
  exact List.contains_iff_mem.1 h
/-- What overrides another one. -/
theorem ov_over {m : List EntM} {c a : Int × Int} {x : MethM} (h : ovM m c a x = true) : statF x.flags = false ∧ (c = a ∨ (freeX x = true ∧ ownM m x.name x.desc c.1 = some c ∧ c.1 ≠ a.1 ∧ extM m c.1 a.1 = true)) := by
  obtain ⟨h1, h2⟩ := down_mem (ov_mem h)
  refine ⟨h1, h2.imp id ?_⟩
  rintro ⟨h3, c', _, h4, h5⟩
  have := (own_spec h4).1
  subst this
  exact ⟨h3, h4, h5⟩

/-- What is taken for one is taken for another one that it overrides. -/
theorem fold_two {m : List EntM} {n d : ByteArray} {b c : Int × Int} : ∀ (l : List Int), (∀ x ∈ l, x ≠ c.1 ∧ extM m x c.1 = true) → ∀ {L L' : List (Int × Int)}, (∀ i ∈ L, i ∈ L') → ∀ i ∈ l.foldl (stepM m n d b) L, i ∈ l.foldl (stepM m n d c) L'
  | [], _, _, _, h => h
  | x :: l, hl, L, L', h => by
    rw [List.foldl_cons, List.foldl_cons]
    refine fold_two l (fun y hy => hl y (List.mem_cons_of_mem _ hy)) fun i hi => ?_
    unfold stepM at hi ⊢
    cases ho : ownM m n d x with
    | none => rw [ho] at hi; exact h i hi
    | some id =>
      rw [ho] at hi
      simp only at hi ⊢
      obtain ⟨h1, h2⟩ := hl x (List.mem_cons_self ..)
      rw [if_neg (by simp [h1, h2])]
      split at hi
      · split
        · exact List.mem_append_left _ (h i hi)
        · exact h i hi
      · split at hi
        · next hany =>
          obtain ⟨y, hy1, hy2⟩ := List.any_eq_true.1 hany
          rw [if_pos (List.any_eq_true.2 ⟨y, h y hy1, hy2⟩)]
          rcases List.mem_append.1 hi with hi | hi
          · exact List.mem_append_left _ (h i hi)
          · exact List.mem_append_right _ hi
        · split
          · exact List.mem_append_left _ (h i hi)
          · exact h i hi
theorem downL_own {m : List EntM} (hw : WFm m) {i : Nat} (hi : i < m.length) (j : Int) : downL m ((i : Int), j) i = [((i : Int), j)] := by
  unfold downL
  rw [if_pos]
  rw [Bool.or_eq_true]
  exact .inl (List.contains_iff_mem.2 (List.mem_of_getElem? (ch_head hw hi)))
theorem ov_refl {m : List EntM} (hw : WFm m) {a : Int × Int} {x : MethM} (hx : methAt m a = some x) : ovM m a a x = !statF x.flags := by
  obtain ⟨i, j, hi, _, rfl, _⟩ := methAt_some hx
  unfold ovM downM
  cases hs : statF x.flags with
  | true => rfl
  | false =>
    simp only [Bool.false_eq_true, if_false, Int.toNat_natCast, Bool.not_false, downL_own hw hi]
    rw [List.contains_iff_mem]
    split
    · exact fold_sub _ (List.mem_singleton.2 rfl)
    · exact List.mem_singleton.2 rfl
section
variable {m : List EntM} (hw : WFm m) (ho : OrdM m)
include hw ho
theorem ov_names {c a : Int × Int} {x y : MethM} (h : ovM m c a x = true) (hx : methAt m a = some x) (hy : methAt m c = some y) : y.name = x.name ∧ y.desc = x.desc ∧ extM m c.1 a.1 = true := by
  rcases (ov_over h).2 with rfl | ⟨_, h1, _, h2⟩
  · rw [hx] at hy
    obtain rfl := Option.some.inj hy
    obtain ⟨i, j, hi, _, rfl, _⟩ := methAt_some hx
    exact ⟨rfl, rfl, ext_refl hw ho hi⟩
  · obtain ⟨_, _, z, h3, h4, h5, _⟩ := own_spec h1
    rw [hy] at h3
    obtain rfl := Option.some.inj h3
    exact ⟨h4, h5, h2⟩
theorem ov_anti {c a : Int × Int} {x y : MethM} (hx : methAt m a = some x) (hy : methAt m c = some y) (h : ovM m c a x = true) (h' : ovM m a c y = true) : c = a := by
  rcases (ov_over h).2 with e | ⟨_, _, h1, h2⟩
  · exact e
  rcases (ov_over h').2 with e | ⟨_, _, h3, h4⟩
  · exact e.symm
  obtain ⟨i, j, hi, _, rfl, _⟩ := methAt_some hx
  obtain ⟨k, l, hk, _, rfl, _⟩ := methAt_some hy
  have := ext_anti hw ho hk hi h2 (fun e => h1 (by simp [e]))
  rw [h4] at this
  cases this
/-- A chain up to a class, and that class's own. -/
theorem ch_split {a : Nat} (h : a < m.length) : ∀ b : Nat, (b : Int) ∈ ch m a → ∃ P, ch m a = P ++ ch m b ∧ ∀ x ∈ P, ∃ k : Nat, x = k ∧ k < m.length ∧ k ≠ b ∧ extM m k b = true := by
  refine ch_ind hw (P := fun a => ∀ h : a < m.length, ∀ b : Nat, (b : Int) ∈ ch m a → ∃ P, ch m a = P ++ ch m b ∧ ∀ x ∈ P, ∃ k : Nat, x = k ∧ k < m.length ∧ k ≠ b ∧ extM m k b = true) ?_ ?_ a h h
  · intro h b hb
    rw [ch_zero hw h] at hb
    obtain rfl : b = 0 := by have := List.mem_singleton.1 hb; omega
    exact ⟨[], rfl, fun x hx => by cases hx⟩
  · intro a p h h0 hpa hp ih _ b hb
    have hs := ch_step hw h h0 hp (by omega)
    by_cases hab : a = b
    · subst hab
      exact ⟨[], rfl, fun x hx => by cases hx⟩
    · have hb' : (b : Int) ∈ ch m p := by
        rw [hs] at hb
        rcases List.mem_cons.1 hb with e | e
        · exact absurd (by omega) hab
        · exact e
      obtain ⟨P, e1, e2⟩ := ih (by omega) b hb'
      refine ⟨(a : Int) :: P, by rw [hs, e1]; rfl, fun x hx => ?_⟩
      rcases List.mem_cons.1 hx with rfl | hx
      · obtain ⟨k, e3, _, hk, _⟩ := ch_mem hw h _ hb
        obtain rfl : b = k := by omega
        exact ⟨a, rfl, h, hab, (ext_iff hw ho h hk).2 (.inl hb)⟩
      · exact e2 x hx
theorem iface_clo {a b : Nat} (ha : a < m.length) (hb : b < m.length) (h : extM m a b = true) (hi : isIfaceM m (b : Int) = false) : (b : Int) ∈ ch m a := by
  rcases (ext_iff hw ho ha hb).1 h with h | h
  · exact h
  · obtain ⟨k, e1, _, e2⟩ := clo_mem hw ho ha _ h
    obtain rfl : b = k := by omega
    unfold isIfaceM at hi
    rw [entAt_nat hb] at hi
    rw [clsAt_at hb] at e2
    simp only at hi
    rw [e2] at hi
    cases hi
/-- Nothing above a class, and not itself, is taken where the class itself is asked. -/
theorem fold_above {n d : ByteArray} {b : Nat} (hb : b < m.length) (j : Int) : ∀ (l : List Int), (∀ x ∈ l, x ∈ ch m b) → ∀ L, l.foldl (stepM m n d ((b : Int), j)) L = L
  | [], _, _ => rfl
  | c :: l, h, L => by
    have hs : stepM m n d ((b : Int), j) L c = L := by
      unfold stepM
      split
      · rfl
      · rw [if_pos]
        obtain ⟨k, rfl, _, hk, _⟩ := ch_mem hw hb c (h c (List.mem_cons_self ..))
        by_cases e : k = b
        · simp [e]
        · have := ext_anti hw ho hb hk ((ext_iff hw ho hb hk).2 (.inl (h _ (List.mem_cons_self ..)))) (fun e' => e e'.symm)
          simp [this]
    rw [List.foldl_cons, hs]
    exact fold_above hb j l (fun x hx => h x (List.mem_cons_of_mem _ hx)) L
theorem ov_trans {a b c : Int × Int} {x y z : MethM} (hx : methAt m a = some x) (hy : methAt m b = some y) (hz : methAt m c = some z) (h1 : ovM m a b y = true) (h2 : ovM m b c z = true) : ovM m a c z = true := by
  obtain ⟨hs1, h1'⟩ := ov_over h1
  obtain ⟨hs2, h2'⟩ := ov_over h2
  rcases h1' with rfl | ⟨hf1, ho1, hn1, he1⟩
  · exact h2
  rcases h2' with rfl | ⟨hf2, ho2, hn2, he2⟩
  · rw [hy] at hz
    obtain rfl := Option.some.inj hz
    exact h1
  obtain ⟨hn, hd, _⟩ := ov_names hw ho h2 hz hy
  have m1 := ov_mem h1
  have m2 := ov_mem h2
  have hib := (own_spec ho2).2.1
  obtain ⟨i, j, hi, _, rfl, _⟩ := methAt_some hx
  obtain ⟨k, l, hk, _, rfl, _⟩ := methAt_some hy
  obtain ⟨p, q, hp, _, rfl, _⟩ := methAt_some hz
  simp only [Int.toNat_natCast] at m1 m2 hn1 hn2 he1 he2 hib
  have hch := iface_clo hw ho hi hk he1 hib
  obtain ⟨P, hP, hPx⟩ := ch_split hw ho hi k hch
  unfold downM at m1 m2
  rw [hs1, hf1] at m1
  rw [hs2, hf2] at m2
  simp only [Bool.false_eq_true, if_false, if_true] at m1 m2
  have hL1 : downL m ((k : Int), (l : Int)) i = [((k : Int), (l : Int))] := by
    unfold downL
    rw [if_pos]
    rw [Bool.or_eq_true]
    exact .inl (List.contains_iff_mem.2 hch)
  rw [hL1, hP, List.reverse_append, List.foldl_append, fold_above hw ho hk _ _ (fun x hx => List.mem_reverse.1 hx), hn, hd] at m1
  have hL2 : downL m ((p : Int), (q : Int)) i = downL m ((p : Int), (q : Int)) k := by
    unfold downL
    cases hc : ((ch m k).contains ((p : Int), (q : Int)).1 || isIfaceM m ((p : Int), (q : Int)).1) with
    | true =>
      rw [if_pos rfl, if_pos]
      rw [Bool.or_eq_true] at hc ⊢
      refine hc.imp (fun h => ?_) id
      exact List.contains_iff_mem.2 (ch_sub hw hi k hch _ (List.contains_iff_mem.1 h))
    | false =>
      have : downL m ((p : Int), (q : Int)) k = [] := by
        unfold downL
        rw [hc]
        rfl
      rw [this, fold_nil] at m2
      cases m2
  unfold ovM downM
  rw [List.contains_iff_mem, hs2, hf2]
  simp only [Bool.false_eq_true, if_false, if_true, Int.toNat_natCast]
  rw [hL2, hP, List.reverse_append, List.foldl_append]
  refine fold_two P.reverse (fun x hx => ?_) (fun i hi => ?_) _ m1
  · obtain ⟨r, rfl, hr, hrk, hrx⟩ := hPx x (List.mem_reverse.1 hx)
    have ht := ext_trans hw ho hr hk hp hrx he2
    refine ⟨fun e => ?_, ht⟩
    have e' : (r : Int) = (p : Int) := e
    obtain rfl : r = p := by omega
    have := ext_anti hw ho hr hk hrx hrk
    rw [he2] at this
    cases this
  · obtain rfl := List.mem_singleton.1 hi
    exact m2
theorem plain_ov {a b : Int × Int} {x y : MethM} (hx : methAt m a = some x) (hy : methAt m b = some y) (h : plainM m a b y = true) : ovM m a b y = true := by
  obtain ⟨i, j, hi, _, rfl, _⟩ := methAt_some hx
  obtain ⟨k, l, hk, _, rfl, _⟩ := methAt_some hy
  unfold plainM at h
  simp only [Bool.and_eq_true, beq_iff_eq, bne_iff_ne] at h
  obtain ⟨⟨⟨⟨h1, h2⟩, h3⟩, h4⟩, h5⟩ := h
  have hs : statF y.flags = false := by
    unfold freeX at h2
    cases hs : statF y.flags with
    | true => rw [hs] at h2; simp at h2
    | false => rfl
  have hL : downL m ((k : Int), (l : Int)) i = [((k : Int), (l : Int))] := by
    unfold downL
    rw [if_pos]
    rw [Bool.or_eq_true]
    rcases (ext_iff hw ho hi hk).1 h4 with h | h
    · exact .inl (List.contains_iff_mem.2 h)
    · obtain ⟨k', e1, _, e2⟩ := clo_mem hw ho hi _ h
      obtain rfl : k = k' := by omega
      refine .inr ?_
      unfold isIfaceM
      rw [entAt_nat hk]
      rw [clsAt_at hk] at e2
      exact e2
  unfold ovM downM
  rw [List.contains_iff_mem, hs, h2]
  simp only [Bool.false_eq_true, if_false, if_true, Int.toNat_natCast]
  rw [hL]
  have hh := ch_head hw hi
  obtain ⟨r, hr⟩ : ∃ r, ch m i = (i : Int) :: r := by
    cases hc : ch m i with
    | nil => rw [hc] at hh; cases hh
    | cons c r =>
      rw [hc] at hh
      exact ⟨r, by rw [Option.some.inj hh]⟩
  rw [hr, List.reverse_cons, List.foldl_append, List.foldl_cons, List.foldl_nil]
  generalize hG : r.reverse.foldl (stepM m y.name y.desc ((k : Int), (l : Int))) [((k : Int), (l : Int))] = G
  have hG' : ((k : Int), (l : Int)) ∈ G := by rw [← hG]; exact fold_sub _ (List.mem_singleton.2 rfl)
  unfold stepM
  rw [h1]
  simp only
  rw [if_neg (by simp only [Bool.or_eq_true, beq_iff_eq, Bool.not_eq_true']; rintro (e | e); exact h3 e; rw [h4] at e; cases e), if_pos (List.any_eq_true.2 ⟨_, hG', h5⟩)]
  exact List.mem_append_right _ (List.mem_singleton.2 rfl)
end
end Go.Proofs.YtiiebakblkpkeaaGreatDoor.Hi
