/- What a class that arrives later leaves of a resolution (plain). -/
import Derived.Test.YtiiebakblkpkeaaGreatDoorVC
import Derived.Test.YtiiebakblkpkeaaGreatDoorMG
set_option maxRecDepth 100000
set_option maxHeartbeats 1000000
set_option linter.unusedVariables false
set_option linter.unusedSimpArgs false
namespace Go.Proofs.YtiiebakblkpkeaaGreatDoor.Hi
open Go.RowKit Bs

section
variable {m : List EntM} {e : EntM}
theorem findH_app {k : Nat} (hk : k < m.length) (n d : ByteArray) : findH (m ++ [e]) (k : Int) n d = findH m (k : Int) n d := by
  unfold findH
  rw [entAt_app hk]
theorem isIface_app {k : Nat} (hk : k < m.length) : isIfaceM (m ++ [e]) (k : Int) = isIfaceM m (k : Int) := by
  unfold isIfaceM
  rw [entAt_app hk]
theorem byName_app {s : ByteArray} {j : Nat} (h : byNameM m s = ((j : Int), 0)) : byNameM (m ++ [e]) s = ((j : Int), 0) := by
  unfold byNameM at *
  cases hn : nameIx m s with
  | none => rw [hn] at h; exact absurd (show (6 : Int) = 0 from congrArg Prod.snd h) (by decide)
  | some i => rw [hn] at h; rw [nameIx_app hn]; exact h
theorem loaded_app {t : TyM} (h : loadedE m t = 0) : loadedE (m ++ [e]) t = 0 := by
  unfold loadedE at *
  by_cases hk : tyOk t = true
  · rw [if_pos hk] at h ⊢
    cases hE : t.name.toList.isEmpty
    · rw [hE] at h
      cases hn : nameIx m t.name with
      | none => rw [hn] at h; exact absurd h (by decide)
      | some j => rw [nameIx_app hn]; rfl
    · rfl
  · rw [if_neg hk] at h
    exact absurd h (by decide)
theorem loaded_form {t : TyM} (h0 : loadedE m t ≠ 0) (h20 : loadedE m t ≠ 20) : loadedE (m ++ [e]) t = loadedE m t := by
  unfold loadedE at *
  by_cases hk : tyOk t = true
  · rw [if_pos hk] at h0 h20
    split at h20
    · exact absurd rfl h20
    · next h => rw [if_neg h] at h0; exact absurd rfl h0
  · rw [if_neg hk, if_neg hk]
theorem typeOpen_app {i : Nat} (hi : i < m.length) {t : TyM} (h : loadedE m t = 0) : typeOpenM (m ++ [e]) i t = typeOpenM m i t := by
  unfold typeOpenM
  cases hE : t.name.toList.isEmpty
  · obtain ⟨j, hj, hb⟩ := loaded_name h hE
    rw [hb, byName_app hb, Bool.false_or, Bool.false_or]
    unfold classOpenM
    rw [Int.toNat_natCast, clsAt_app hi, clsAt_app hj]
  · rw [Bool.true_or, Bool.true_or]
theorem class_app {i : Nat} (hi : i < m.length) {s : ByteArray} (h20 : (classR m i s).2 ≠ 20) : classR (m ++ [e]) i s = classR m i s := by
  unfold classR at *
  by_cases h1 : refE s ≠ 0
  · rw [if_pos h1, if_pos h1]
  rw [if_neg h1] at h20 ⊢
  rw [if_neg h1]
  by_cases h2 : loadedE m (refT s) ≠ 0
  · rw [if_pos h2] at h20 ⊢
    have := loaded_form (e := e) h2 h20
    rw [this, if_pos h2]
  · have h2' : loadedE m (refT s) = 0 := by omega
    rw [if_neg h2, if_neg (by rw [loaded_app h2']; simp), typeOpen_app hi h2']
theorem hol_app {s : ByteArray} (h : refE s = 0) (hl : loadedE m (refT s) = 0) : holN (m ++ [e]) (refT s) = holN m (refT s) := by
  unfold holN
  by_cases hd : 0 < (refT s).dims
  · rw [if_pos hd, if_pos hd]
  · obtain ⟨_, h1, h2⟩ := refT_ok s h
    obtain ⟨j, hj, hb⟩ := loaded_name hl (h2 (by omega))
    rw [if_neg hd, if_neg hd, hb, byName_app hb]
theorem candAt_app {k : Nat} (hk : k < m.length) (n d : ByteArray) : candAt (m ++ [e]) n d (k : Int) = candAt m n d (k : Int) := by
  unfold candAt
  rw [entAt_app hk]
theorem flM_app {k : Nat} (hk : k < m.length) (b : Int) : flM (m ++ [e]) ((k : Int), b) = flM m ((k : Int), b) := by
  unfold flM
  simp only [entAt_app hk]
theorem flags_app {k : Nat} (hk : k < m.length) (b : Int) : flagsAt (m ++ [e]) ((k : Int), b) = flagsAt m ((k : Int), b) := by
  unfold flagsAt
  simp only [entAt_app hk]
theorem cand_app (hw : WFm m) (ho : OrdM m) {c : Nat} (hc : c < m.length) (n d : ByteArray) : candM (m ++ [e]) c n d = candM m c n d := by
  unfold candM
  rw [clo_app hc]
  have key : ∀ l : List Int, (∀ x ∈ l, x ∈ clo m c) → l.filterMap (candAt (m ++ [e]) n d) = l.filterMap (candAt m n d) := fun l => by
    induction l with
    | nil => intro _; rfl
    | cons x r ih =>
      intro hl
      obtain ⟨k, rfl, hk, _⟩ := clo_mem hw ho hc x (hl x (List.mem_cons_self ..))
      rw [List.filterMap_cons, List.filterMap_cons, candAt_app (show k < m.length by omega), ih fun q hq => hl q (List.mem_cons_of_mem _ hq)]
  exact key _ fun x hx => hx
theorem max_app (hw : WFm m) (ho : OrdM m) {c : Nat} (hc : c < m.length) (n d : ByteArray) : maxM (m ++ [e]) c n d = maxM m c n d := by
  unfold maxM maxL
  rw [cand_app hw ho hc]
  refine List.filter_congr fun p hp => ?_
  obtain ⟨y, k, hy, hk, rfl, _⟩ := cand_mem hw ho hc hp
  have key : ∀ l : List (Int × Int), (∀ o ∈ l, o ∈ candM m c n d) → hidM (m ++ [e]) l ((y : Int), (k : Int)) = hidM m l ((y : Int), (k : Int)) := fun l => by
    induction l with
    | nil => intro _; rfl
    | cons o r ih =>
      intro hl
      have hi := ih fun q hq => hl q (List.mem_cons_of_mem _ hq)
      obtain ⟨z, j, hz, hj, rfl, _⟩ := cand_mem hw ho hc (hl o (List.mem_cons_self ..))
      unfold hidM at *
      rw [List.any_cons, List.any_cons, hi]
      unfold hidE
      rw [ext_app hw hz hy]
  rw [key _ fun o ho => ho]
theorem con_app (hw : WFm m) (ho : OrdM m) {c : Nat} (hc : c < m.length) (n d : ByteArray) : conM (m ++ [e]) c n d = conM m c n d := by
  unfold conM
  rw [max_app hw ho hc]
  refine List.filter_congr fun p hp => ?_
  have hp' : p ∈ candM m c n d := by
    unfold maxM maxL at hp
    exact (List.mem_filter.1 hp).1
  obtain ⟨y, k, hy, hk, rfl, _⟩ := cand_mem hw ho hc hp'
  unfold absM
  rw [flM_app hy]
theorem one_app (hw : WFm m) (ho : OrdM m) {c : Nat} (hc : c < m.length) (n d : ByteArray) : oneM (m ++ [e]) c n d = oneM m c n d := by
  unfold oneM
  rw [con_app hw ho hc]
theorem some_app (hw : WFm m) (ho : OrdM m) {c : Nat} (hc : c < m.length) (n d : ByteArray) : someM (m ++ [e]) c n d = someM m c n d := by
  unfold someM
  rw [cand_app hw ho hc]
theorem first_app {n d : ByteArray} : ∀ {l : List Int}, (∀ x ∈ l, ∃ k : Nat, x = k ∧ k < m.length) → firstM (m ++ [e]) n d l = firstM m n d l
  | [], _ => rfl
  | x :: r, h => by
    obtain ⟨k, rfl, hk⟩ := h x (List.mem_cons_self ..)
    unfold firstM
    rw [findH_app hk, first_app fun y hy => h y (List.mem_cons_of_mem _ hy)]
theorem chain_app (hw : WFm m) {c : Nat} (hc : c < m.length) (n d : ByteArray) : chainR (m ++ [e]) c n d = chainR m c n d := by
  unfold chainR
  rw [ch_app hw hc]
  refine first_app fun x hx => ?_
  obtain ⟨k, rfl, _, hk, _⟩ := ch_mem hw hc x hx
  exact ⟨k, rfl, hk⟩
theorem look_app (hw : WFm m) (ho : OrdM m) {c : Nat} (hc : c < m.length) (n d : ByteArray) : lookM (m ++ [e]) c n d = lookM m c n d := by
  unfold lookM lookupM
  rw [isIface_app hc, chain_app hw hc, one_app hw ho hc, some_app hw ho hc]
theorem obj_app (ho : OrdM m) (n d : ByteArray) : objR (m ++ [e]) n d = objR m n d := by
  unfold objR
  rw [findH_app ho.root.1, flags_app ho.root.1]
theorem lookI_app (hw : WFm m) (ho : OrdM m) {c : Nat} (hc : c < m.length) (n d : ByteArray) : lookIM (m ++ [e]) c n d = lookIM m c n d := by
  unfold lookIM ownR
  rw [isIface_app hc, findH_app hc, obj_app ho, one_app hw ho hc, some_app hw ho hc]
theorem found_app (hw : WFm m) (ho : OrdM m) {t : TyM} {r : RefM} (hh : holN (m ++ [e]) t = holN m t) (hc : holN m t < m.length) : foundM (m ++ [e]) t r = foundM m t r := by
  unfold foundM
  rw [hh, look_app hw ho hc, lookI_app hw ho hc]
theorem mo_app (hw : WFm m) {i a k : Nat} (hi : i < m.length) (ha : a < m.length) (hk : k < m.length) (f : Int) : moM (m ++ [e]) i a f k = moM m i a f k := by
  unfold moM
  rw [clsAt_app hi, clsAt_app ha, isIface_app ha, ext_app hw hi ha, ext_app hw hk hi, ext_app hw hi hk]
theorem method_app (hw : WFm m) (ho : OrdM m) {i : Nat} (hi : i < m.length) {r : RefM} (h20 : (methodR m i r).2 ≠ 20) : methodR (m ++ [e]) i r = methodR m i r := by
  unfold methodR at *
  by_cases a1 : Pr.formE (refOk r) ≠ 0
  · rw [if_pos a1, if_pos a1]
  rw [if_neg a1] at h20 ⊢
  rw [if_neg a1]
  by_cases a2 : (classR m i r.cls).2 ≠ 0
  · rw [if_pos a2] at h20
    rw [class_app hi h20]
    rw [if_pos a2, if_pos a2]
  rw [if_neg a2] at h20 ⊢
  rw [class_app hi (by omega), if_neg a2]
  obtain ⟨e1, e2, e3, e4⟩ := class_ok (m := m) (i := i) (s := r.cls) (by omega)
  have hl := holN_lt (by omega) e1 e2
  have hf := found_app (e := e) hw ho (r := r) (hol_app e1 e2) hl
  rw [hf]
  by_cases a3 : (foundM m (refT r.cls) r).2 ≠ 0
  · rw [if_pos a3, if_pos a3]
  rw [if_neg a3] at h20 ⊢
  rw [if_neg a3]
  have ho' : openR (m ++ [e]) i r = openR m i r := by
    obtain ⟨⟨x, y, hx, hy, hp, _, _⟩, _⟩ := has_found hw ho hl (by omega : (foundM m (refT r.cls) r).2 = 0)
    unfold openR
    rw [hf, hp, flags_app hx, Int.toNat_natCast, hol_app e1 e2, mo_app hw hi hx hl]
  rw [ho']
end
/-- Nothing that was resolved is turned by a class that arrives; nor is an error, but that a class is not there. -/
theorem method_later {m : List EntM} (hw : WFm m) (ho : OrdM m) (c : ClsM) {i : Nat} (hi : i < m.length) {r : RefM} (h20 : (methodR m i r).2 ≠ 20) : methodR (defM m c) i r = methodR m i r := by
  rcases defM_cases m c with ⟨_, h, _⟩ | ⟨_, h, _⟩
  · rw [h]; exact method_app hw ho hi h20
  · rw [h]
theorem len_later (m : List EntM) (c : ClsM) : m.length ≤ (defM m c).length := by
  rcases defM_cases m c with ⟨_, h, _⟩ | ⟨_, h, _⟩
  · rw [h]; simp
  · rw [h]; exact Nat.le_refl _
end Go.Proofs.YtiiebakblkpkeaaGreatDoor.Hi
