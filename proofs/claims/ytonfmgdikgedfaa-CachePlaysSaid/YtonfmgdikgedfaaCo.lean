/- Caches: arguments of rows, opened. -/
import Derived.Test.YtonfmgdikgedfaaCu
import Derived.Deep.Slices
import Derived.ChangeArms
import Derived.OpenShut
import Derived.Handed
set_option maxRecDepth 100000
set_option linter.unusedVariables false
set_option linter.unusedSimpArgs false
namespace Go.Proofs.Ytonfmgdikgedfaa.Cm
open Go.RowKit Go.ChangeShapes Bs Hi

section
variable {H : Type} {enc : TypeId × Value → H} {P : Program} {w : World} {held : Bool}

/-- None is beyond reach. -/
def Light (ns : List Nat) : Prop := ∀ n ∈ ns, n ≤ reachBytes

theorem weightsAll_mem {e : TypeId} : ∀ {l : List (DataW H)} {d : DataW H} {n : Nat}, d ∈ l → n ∈ d.weights P e → n ∈ DataW.weightsAll P e l
  | [], _, _, hd, _ => by cases hd
  | x :: r, d, n, hd, hn => by
    unfold DataW.weightsAll
    rcases List.mem_cons.1 hd with rfl | hd
    · exact List.mem_append_left _ hn
    · exact List.mem_append_right _ (weightsAll_mem hd hn)
theorem weightsEach_mem : ∀ {ts : List TypeId} {l : List (DataW H)} {i : Nat} {t : TypeId} {d : DataW H} {n : Nat}, ts[i]? = some t → l[i]? = some d → n ∈ d.weights P t → n ∈ DataW.weightsEach P ts l
  | [], _, _, _, _, _, h, _, _ => by simp at h
  | _ :: _, [], _, _, _, _, _, h, _ => by simp at h
  | t' :: ts, d' :: l, 0, t, d, n, ht, hd, hn => by
    simp at ht hd
    subst ht; subst hd
    unfold DataW.weightsEach
    exact List.mem_append_left _ hn
  | t' :: ts, d' :: l, i + 1, t, d, n, ht, hd, hn => by
    unfold DataW.weightsEach
    exact List.mem_append_right _ (weightsEach_mem (by simpa using ht) (by simpa using hd) hn)

theorem open_sl {α : Type} [Inhabited α] {k bytes : Nat} {R : World → List Value → α → Prop} {t e : TypeId} {fuel : Nat} {cs : List Value} {x : DataW H × List MemPlace} (ht : P.underlying t = some (.slice e)) (hk : P.cellsOf e = k) (hb : P.bytesOf e = bytes) (hk0 : 0 < k)
    (h : DataW.trod enc P w 0 (fun _ => true) held fuel t cs = some x) (hw : Light (x.1.weights P t))
    (hR : ∀ n cs' y, DataW.trod enc P w 0 (fun _ => true) held n e cs' = some y → Light (y.1.weights P e) → ∃ z, R w cs' z) :
    ∃ v xs, cs = [v] ∧ Sl (fun b => b < w.heap.size) k bytes R w v xs := by
  rcases Go.Deep.open_slice ht h with ⟨rfl, rfl⟩ | ⟨a, len, cap, m, n, D, Pl, rfl, _, hl, hm, hmm, rfl, hx⟩
  · exact ⟨_, [], rfl, none, 0, rfl, Nat.le_refl _, by simp, .inl rfl⟩
  have hmc : m = cap := by simpa using hmm
  subst hmc
  unfold DataW.weights at hw
  rw [ht] at hw
  simp only [List.length_map, List.length_range] at hw
  have h1 : (len + (m - len)) * P.bytesOf e ≤ reachBytes := hw _ (List.mem_cons_self ..)
  rw [hb] at h1
  have hlight : ∀ i, i < len → Light ((D i).weights P e) := fun i hi q hq => hw q (List.mem_cons_of_mem _ (List.mem_append_left _ (weightsAll_mem (List.mem_map.2 ⟨i, List.mem_range.2 hi, rfl⟩) hq)))
  obtain ⟨f, hf⟩ := Go.Deep.choose_lt (α := α) (n := len) (p := fun i z => ∃ cs', w.cells? 0 (a.add (i * P.cellsOf e)) (P.cellsOf e) = some cs' ∧ R w cs' z) (fun i hi => by
    obtain ⟨cs', g1, g2⟩ := hx i (by omega)
    obtain ⟨z, hz⟩ := hR n cs' _ g2 (hlight i hi)
    exact ⟨z, cs', g1, hz⟩)
  rw [hk] at hf
  obtain ⟨ab, ao, asp⟩ := a
  refine ⟨_, (List.range len).map f, rfl, some ⟨ab, ao, asp⟩, m, by simp, by simpa using hl, ?_, ?_⟩
  · simp only [List.length_map, List.length_range]
    have : len * bytes ≤ (len + (m - len)) * bytes := Nat.mul_le_mul_right _ (by omega)
    unfold reachBytes at h1
    omega
  · by_cases h0 : len = 0
    · subst h0; exact .inl rfl
    right
    have hcell : ∀ i, i < len → ∃ cs', cs'.length = k ∧ (∀ j, j < k → w.cell? ((⟨ab, ao, asp⟩ : Addr).add (i * k + j)) = cs'[j]?) ∧ R w cs' (f i) := fun i hi => by
      obtain ⟨cs', g1, g2⟩ := hf i hi
      obtain ⟨_, g3, g4⟩ := World.cells?_some g1
      exact ⟨cs', g3, fun j hj => by rw [← Go.Deep.add_add]; exact g4 j hj, g2⟩
    have hsp : asp = none := by
      obtain ⟨cs', g3, g4, _⟩ := hcell 0 (by omega)
      have := g4 0 hk0
      rw [List.getElem?_eq_getElem (by omega)] at this
      simp only [Nat.zero_mul, Nat.add_zero, Addr.add, if_pos] at this
      unfold World.cell? at this
      cases asp with
      | none => rfl
      | some s => split at this <;> simp at this
    subst hsp
    have hadd : ∀ j, (⟨ab, ao, none⟩ : Addr).add j = ⟨ab, ao + j, none⟩ := fun j => by
      unfold Addr.add
      split
      · next h => subst h; rfl
      · rfl
    refine ⟨ab, ao, rfl, ?_, fun i hi => ?_⟩
    · obtain ⟨cs', g3, g4, _⟩ := hcell 0 (by omega)
      have := g4 0 hk0
      rw [List.getElem?_eq_getElem (by omega), hadd] at this
      exact World.block_lt_of_cell? _ _ this
    · have hi' : i < len := by simpa using hi
      obtain ⟨cs', g3, g4, g5⟩ := hcell i hi'
      refine ⟨cs', g3, fun j hj => ?_, ?_⟩
      · have := g4 j (by omega)
        rw [hadd, List.getElem?_eq_getElem hj, ← Nat.add_assoc] at this
        exact this
      · simpa using g5

theorem open_field {t : TypeId} {fs : Array Field} {fuel : Nat} {cs : List Value} {x : DataW H × List MemPlace} (ht : P.underlying t = some (.struct fs)) (h : DataW.trod enc P w 0 (fun _ => true) held fuel t cs = some x) (hw : Light (x.1.weights P t)) (i : Nat) (f : Field) (hf : fs[i]? = some f) :
    ∃ n y, DataW.trod enc P w 0 (fun _ => true) held n f.type ((cs.drop f.offset).take (P.cellsOf f.type)) = some y ∧ Light (y.1.weights P f.type) := by
  obtain ⟨xs, n, rfl, rfl, hl, hx, hall⟩ := DataW.trod_struct ht h
  have hi : i < fs.size := (Array.getElem?_eq_some_iff.1 hf).1
  have e := hall i f hf
  rw [List.getElem?_eq_getElem (by omega)] at e
  refine ⟨n, _, e, fun q hq => hw q ?_⟩
  unfold DataW.weights
  rw [ht]
  refine weightsEach_mem (i := i) (t := f.type) (d := (xs[i]'(by omega)).1) ?_ ?_ hq
  · simp [hf]
  · simp only [List.getElem?_map]
    rw [List.getElem?_eq_getElem (by omega)]
    rfl
theorem struct_len {t : TypeId} {fs : Array Field} {fuel : Nat} {cs : List Value} {x : DataW H × List MemPlace} (ht : P.underlying t = some (.struct fs)) (h : DataW.trod enc P w 0 (fun _ => true) held fuel t cs = some x) : cs.length = P.cellsOf t := by
  obtain ⟨xs, n, rfl, rfl, hl, hx, hall⟩ := DataW.trod_struct ht h
  exact hl
end

section
variable {H : Type} {enc : TypeId × Value → H} {w : World} {held : Bool}
theorem light_of {ts : List TypeId} {ds : List (DataW H)} (h : (DataW.weightsEach Try.prog ts ds).all (· ≤ reachBytes) = true) {j : Nat} {t : TypeId} {d : DataW H} (ht : ts[j]? = some t) (hd : ds[j]? = some d) : Light (d.weights Try.prog t) := fun n hn => by
  have := List.all_eq_true.1 h n (weightsEach_mem ht hd hn)
  simpa using this

theorem fits_wfC {n : Int} (h : (Lit.int .i64 n).wf = true) : Hi.Fits n := by
  have := bounds_i64 h
  exact this
/-- One thing done to a cache. -/
structure OpM where
  kind : Int
  k : Int
  v : Int
  deriving Inhabited
def OpIs (_ : World) (cs : List Value) (o : OpM) : Prop := cs = [.int .i64 o.kind, .int .i64 o.k, .int .i64 o.v]
abbrev OpSl (S : Nat → Prop) := Sl S 3 24 OpIs
theorem open_op {fuel : Nat} {cs : List Value} {x : DataW H × List MemPlace} (h : DataW.trod enc Try.prog w 0 (fun _ => true) held fuel 49 cs = some x) (hw : Light (x.1.weights Try.prog 49)) : ∃ z, OpIs w cs z := by
  have hlen : cs.length = 3 := (struct_len Try.underlying49 h).trans (by kernel_rfl)
  obtain ⟨c0, c1, c2, rfl⟩ : ∃ c0 c1 c2, cs = [c0, c1, c2] := by
    match cs, hlen with
    | [c0, c1, c2], _ => exact ⟨c0, c1, c2, rfl⟩
  obtain ⟨n0, y0, f0, _⟩ := open_field Try.underlying49 h hw 0 _ rfl
  obtain ⟨n1, y1, f1, _⟩ := open_field Try.underlying49 h hw 1 _ rfl
  obtain ⟨n2, y2, f2, _⟩ := open_field Try.underlying49 h hw 2 _ rfl
  obtain ⟨v0, e0, _, _⟩ := DataW.trod_int Try.underlying3 f0
  obtain ⟨v1, e1, _, _⟩ := DataW.trod_int Try.underlying3 f1
  obtain ⟨v2, e2, _, _⟩ := DataW.trod_int Try.underlying3 f2
  change [c0] = _ at e0; change [c1] = _ at e1; change [c2] = _ at e2
  cases e0; cases e1; cases e2
  exact ⟨⟨v0, v1, v2⟩, rfl⟩
theorem ops_arg {t : TypeId} (ht : Try.prog.underlying t = some (.slice 49)) {v : Value} {r : Reach} {b0 : Nat} (hval : Value.okWide Try.prog w r b0 t v) {d : DataW H} {ps : List MemPlace} (h : DataW.Trod enc Try.prog w 0 (fun _ => true) held t v d ps) (hw : Light (d.weights Try.prog t)) :
    ∃ a c xs, v = .slice a (List.length xs) c ∧ OpSl (fun b => b < w.heap.size) w (.slice a (List.length xs) c) xs := by
  obtain ⟨a, len, cap, rfl⟩ := WideShapes.okWide_slice ht hval
  obtain ⟨fuel, hf⟩ := h
  obtain ⟨v', xs, e, hs⟩ := open_sl (R := OpIs) (k := 3) (bytes := 24) (e := 49) ht (by kernel_rfl) (by kernel_rfl) (by decide) hf hw (fun n cs' y hy hl => open_op hy hl)
  simp only [Value.cells] at e
  have : Value.slice a len cap = v' := by simpa using e
  subst this
  obtain ⟨a', c', e', _⟩ := id hs
  exact ⟨a', c', xs, e', e' ▸ hs⟩
theorem nums_arg {t : TypeId} (ht : Try.prog.underlying t = some (.slice 3)) {v : Value} {r : Reach} {b0 : Nat} (hval : Value.okWide Try.prog w r b0 t v) {d : DataW H} {ps : List MemPlace} (h : DataW.Trod enc Try.prog w 0 (fun _ => true) held t v d ps) (hw : Light (d.weights Try.prog t)) :
    ∃ a c xs, v = .slice a (List.length xs) c ∧ IntSl (fun b => b < w.heap.size) w (.slice a (List.length xs) c) xs := by
  obtain ⟨a, len, cap, rfl⟩ := WideShapes.okWide_slice ht hval
  obtain ⟨fuel, hf⟩ := h
  obtain ⟨v', xs, e, hs⟩ := open_sl (R := IntIs) (k := 1) (bytes := 8) (e := 3) ht (by kernel_rfl) (by kernel_rfl) (by decide) hf hw (fun n cs' y hy hl => by
    obtain ⟨v0, e0, _, h0⟩ := DataW.trod_int Try.underlying3 hy
    exact ⟨v0, e0, fits_wfC h0⟩)
  simp only [Value.cells] at e
  have : Value.slice a len cap = v' := by simpa using e
  subst this
  obtain ⟨a', c', e', _⟩ := id hs
  exact ⟨a', c', xs, e', e' ▸ hs⟩
end
end Go.Proofs.Ytonfmgdikgedfaa.Cm
