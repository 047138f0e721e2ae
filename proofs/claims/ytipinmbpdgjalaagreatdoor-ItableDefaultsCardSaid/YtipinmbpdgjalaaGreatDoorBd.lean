/- Interface tables: what the laws tell (plain). -/
import Derived.Test.YtipinmbpdgjalaaGreatDoorBc2
import Derived.Test.YtipinmbpdgjalaaGreatDoorWv
set_option maxRecDepth 100000
set_option maxHeartbeats 1000000
set_option linter.unusedVariables false
set_option linter.unusedSimpArgs false
namespace Go.Proofs.YtipinmbpdgjalaaGreatDoor.Hi
open Go.RowKit Bs

/-- How many entries have an error. -/
def errN (T : List Ety) (e : Int) : Nat := (T.filter fun t => t.2.1.2 == e).length
theorem errN_snoc (T : List Ety) (t : Ety) (e : Int) : errN (T ++ [t]) e = errN T e + if t.2.1.2 = e then 1 else 0 := by
  unfold errN
  rw [List.filter_append, List.length_append]
  by_cases h : t.2.1.2 = e
  · simp [h]
  · simp [h]
theorem errN_le (T : List Ety) (e : Int) : errN T e ≤ T.length := List.length_filter_le _ _
theorem errN_all : ∀ (T : List Ety), (∀ t ∈ T, t.2.1.2 = 0 ∨ t.2.1.2 = 24 ∨ t.2.1.2 = 23 ∨ t.2.1.2 = 22) → errN T 0 + errN T 24 + errN T 23 + errN T 22 = T.length := by
  intro T
  induction T with
  | nil => intro _; rfl
  | cons t T ih =>
    intro h
    have h1 := ih fun x hx => h x (List.mem_cons_of_mem _ hx)
    have h2 := h t (List.mem_cons_self ..)
    have key : ∀ e : Int, errN (t :: T) e = (if t.2.1.2 = e then 1 else 0) + errN T e := fun e => by
      unfold errN
      rw [List.filter_cons]
      by_cases he : t.2.1.2 = e
      · simp [he]; omega
      · simp [he]
    rw [key, key, key, key, List.length_cons]
    rcases h2 with e | e | e | e <;> rw [e] <;> simp <;> omega
section
variable {m : List EntM} (hw : WFm m) (ho : OrdM m)
include hw ho
theorem root_mem {r : Nat} (hr : r < m.length) {q : Int × Int} (h : q ∈ rootL m (clo m r)) :
    ∃ (c : Nat) (hc : c < m.length) (k : Nat) (hk : k < m[c].c.meths.length), q = ((c : Int), (k : Int)) ∧ methAt m q = some m[c].c.meths[k] ∧ ((c = 0 ∧ mthX 8 1 m[c].c.meths[k] = true) ∨ ((c : Int) ∈ clo m r ∧ mthX 10 0 m[c].c.meths[k] = true)) := by
  unfold rootL at h
  rcases List.mem_append.1 h with h | h
  · obtain ⟨k, hk, e, hm, hx⟩ := mem_mth ho.root.1 h
    exact ⟨0, ho.root.1, k, hk, e, hm, .inl ⟨rfl, hx⟩⟩
  · obtain ⟨x, hx, h⟩ := List.mem_flatMap.1 h
    obtain ⟨c, rfl, hc, _⟩ := clo_mem hw ho hr x hx
    have hcl : c < m.length := by omega
    rw [Int.toNat_natCast] at h
    obtain ⟨k, hk, e, hm, hq⟩ := mem_mth hcl h
    exact ⟨c, hcl, k, hk, e, hm, .inr ⟨hx, hq⟩⟩
theorem root_ext {r : Nat} (hr : r < m.length) {q : Int × Int} (h : q ∈ rootL m (clo m r)) : extM m (r : Int) q.1 = true := by
  obtain ⟨c, hc, k, hk, rfl, _, hh⟩ := root_mem hw ho hr h
  rcases hh with ⟨rfl, _⟩ | ⟨h, _⟩
  · exact (ext_iff hw ho hr hc).2 (.inl (ch_root hw hr))
  · exact (ext_iff hw ho hr hc).2 (.inr h)
theorem itf_errs {x : MethM} {p : Int × Int} {r : Nat} (hi : isIfaceM m (r : Int) = false) : (itfE m x p r).2 = 0 ∨ (itfE m x p r).2 = 24 ∨ (itfE m x p r).2 = 23 ∨ (itfE m x p r).2 = 22 := by
  have _u := And.intro hw ho
  unfold itfE
  rw [if_neg (by rw [hi]; decide)]
  split
  · exact .inr (.inr (.inl rfl))
  split
  · rcases one_cases m r x.name x.desc with e | e | ⟨q, _, e⟩ <;> rw [e] <;> simp
  · next q' _ =>
    cases hy : methAt m q' with
    | none => simp
    | some y =>
      simp only
      split
      · simp
      · rcases fnd_cases m q' with e | ⟨e, _⟩ <;> rw [e] <;> simp
theorem root_errs {r : Nat} (hr : r < m.length) (hi : isIfaceM m (r : Int) = false) {q : Int × Int} (h : q ∈ rootL m (clo m r)) :
    (itfM m (r : Int) q).2 = 0 ∨ (itfM m (r : Int) q).2 = 24 ∨ (itfM m (r : Int) q).2 = 23 ∨ (itfM m (r : Int) q).2 = 22 := by
  obtain ⟨c, hc, k, hk, _, hm, _⟩ := root_mem hw ho hr h
  rw [(virM_some hr hm).2]
  exact itf_errs hw ho hi
/-- Where no class of the chain has the method, the interfaces' most special ones decide. -/
theorem root_def (hf : FlA m) {r : Nat} (hr : r < m.length) (hi : isIfaceM m (r : Int) = false) {q : Int × Int} (h : q ∈ rootL m (clo m r)) {x : MethM} (hx : methAt m q = some x) (hu : ∀ c ∈ ch m r, decM m x.name x.desc c = none) :
    itfM m (r : Int) q = oneM m r x.name x.desc ∧ virM m (r : Int) q = oneM m r x.name x.desc := by
  have hdec : ∀ (p : Int × Int) (y : MethM), methAt m p = some y → p.1 ∈ ch m r → y.name = x.name → y.desc = x.desc → bits .and .i64 y.flags 8 = 0 → False := fun p y hy hp n1 n2 h8 => by
    have h1 := hu p.1 hp
    have h2 := find_self hf hy
    unfold decM at h1
    rw [← n1, ← n2, h2] at h1
    simp only at h1
    rw [if_pos trivial, show ((p.1, p.2) : Int × Int) = p from rfl, hy] at h1
    simp only at h1
    rw [if_neg (by unfold statF; rw [h8]; decide)] at h1
    cases h1
  obtain ⟨c, hc, k, hk, e, hm, hh⟩ := root_mem hw ho hr h
  have hxe : x = m[c].c.meths[k] := by rw [hx] at hm; exact Option.some.inj hm
  rw [← hxe] at hh
  have h10 : bits .and .i64 x.flags 10 = 0 := by
    rcases hh with ⟨rfl, h⟩ | ⟨_, h⟩
    · exfalso
      unfold mthX at h
      simp only [Bool.and_eq_true, beq_iff_eq] at h
      exact hdec q x hx (by rw [e]; exact ch_root hw hr) rfl rfl h.1
    · unfold mthX at h
      simp only [Bool.and_eq_true, beq_iff_eq] at h
      exact h.1
  have h8 := mask_zeroO (a := 10) (b := 8) (by decide) h10
  have hup : upE m x.name x.desc r = none := by
    unfold upE
    rw [List.findSome?_eq_none_iff]
    exact hu
  refine ⟨?_, ?_⟩
  · rw [(virM_some hr hx).2]
    unfold itfE
    rw [if_neg (by rw [hi]; decide), if_neg (by rw [h10]; decide), hup]
  · rw [(virM_some hr hx).1]
    unfold virE
    rw [if_neg (by rw [hi]; decide), if_neg (by unfold statF; rw [h8]; decide)]
    rw [if_neg]
    intro h0
    rcases first_cases hw ho hx hr with e1 | ⟨p, h1, h2, e1⟩
    · rw [e1] at h0; cases h0
    · obtain ⟨y, hy, n1, n2, f8⟩ := all_spec hw ho hx h1
      exact hdec p y hy h2 n1 n2 f8
theorem root_pre {r : Nat} (hr : r < m.length) {p : Nat} (hp : superM m (r : Int) = ((p : Int), 0)) : ∃ t, rootL m (clo m r) = rootL m (clo m p) ++ t := by
  have h0 : 0 < r := by
    rcases Nat.eq_zero_or_pos r with rfl | h
    · rw [super_zero hw ho] at hp
      injection hp with _ hp
      cases hp
    · exact h
  obtain ⟨p', _, h1, t, h2⟩ := clo_pre hw ho hr h0
  have : p' = p := by
    rw [hp] at h1
    injection h1 with h1 _
    omega
  subst this
  refine ⟨t.flatMap fun i => mthM m i.toNat 10 0, ?_⟩
  unfold rootL
  rw [h2, List.flatMap_append, List.append_assoc]
end
section
variable {m : List EntM} {e : EntM}
theorem mth_app {c : Nat} (hc : c < m.length) (wo wi : Int) : mthM (m ++ [e]) c wo wi = mthM m c wo wi := by
  unfold mthM idsI
  rw [clsAt_app hc]
  refine List.filter_congr fun q hq => ?_
  obtain ⟨i, _, rfl⟩ := List.mem_map.1 hq
  unfold mthB
  rw [methAt_app hc]
theorem clo_appI (hw : WFm m) {r : Nat} (hr : r < m.length) : clo (m ++ [e]) r = clo m r := by
  rw [clo_at hr, clo_at (by simp; omega), List.getElem_append_left hr]
theorem rootL_app {l : List Int} (h0 : 0 < m.length) (hl : ∀ x ∈ l, ∃ k : Nat, x = k ∧ k < m.length) : rootL (m ++ [e]) l = rootL m l := by
  unfold rootL
  rw [mth_app h0]
  congr 1
  have key : ∀ (l : List Int), (∀ x ∈ l, ∃ k : Nat, x = k ∧ k < m.length) → (l.flatMap fun i => mthM (m ++ [e]) i.toNat 10 0) = l.flatMap fun i => mthM m i.toNat 10 0 := fun l => by
    induction l with
    | nil => intro _; rfl
    | cons x l ih =>
      intro h
      obtain ⟨k, rfl, hk⟩ := h x (List.mem_cons_self ..)
      rw [List.flatMap_cons, List.flatMap_cons, Int.toNat_natCast, mth_app hk, ih fun y hy => h y (List.mem_cons_of_mem _ hy)]
  exact key l hl
theorem itb_app (hw : WFm m) (ho : OrdM m) {r : Nat} (hr : r < m.length) (hi : isIfaceM m (r : Int) = false) : itbM (m ++ [e]) (r : Int) = itbM m (r : Int) := by
  have h1 : rootM (m ++ [e]) (r : Int) = rootM m (r : Int) := by
    rw [rootM_ok hr hi, rootM_ok (by simp; omega) (by rw [ifaceO_app hr]; exact hi), clo_appI hw hr, rootL_app ho.root.1 (clo_nat hw ho hr)]
  unfold itbM
  rw [h1]
  congr 1
  rw [rootM_ok hr hi]
  refine List.map_congr_left fun q hq => ?_
  obtain ⟨_, _, _, _, _, hm, _⟩ := root_mem hw ho hr hq
  unfold etyM
  rw [vir_app hw ho hm hr, itf_app hw ho hm hr]
end
theorem itb_later {m : List EntM} (hw : WFm m) (ho : OrdM m) (c : ClsM) {r : Nat} (hr : r < m.length) (hi : isIfaceM m (r : Int) = false) : itbM (defM m c) (r : Int) = itbM m (r : Int) := by
  rcases defM_cases m c with ⟨_, h, _⟩ | ⟨_, h, _⟩
  · rw [h]; exact itb_app hw ho hr hi
  · rw [h]
end Go.Proofs.YtipinmbpdgjalaaGreatDoor.Hi
