/- Arguments of a row, opened: slices of classes. -/
import Derived.Test.YtipinmbpdgjalaaGreatDoorMM
import Derived.Deep.Slices
import Derived.HandedShaped
import Derived.ChangeArms
import Derived.OpenShut
import Derived.Test.YtipinmbpdgjalaaGreatDoorMN
import Derived.Shelf.Vars
import Derived.Handed
set_option maxRecDepth 100000
set_option linter.unusedVariables false
set_option linter.unusedSimpArgs false
namespace Go.Proofs.YtipinmbpdgjalaaGreatDoor.Hi
open Go.RowKit Go.ChangeShapes Bs

section
variable {H : Type} {enc : TypeId × Value → H} {P : Program} {w : World} {held : Bool}

/-- None is beyond reach. -/
def Light (ns : List Nat) : Prop := ∀ n ∈ ns, n ≤ reachBytes

theorem weightsAll_mem {e : TypeId} : ∀ {l : List (DataW H)} {d : DataW H} {n : Nat}, d ∈ l → n ∈ d.weights P e → n ∈ DataW.weightsAll P e l
  | [], _, _, hd, _ => by cases hd
  | x :: r, d, n, hd, hn => by
    unfold DataW.weightsAll
    rcases List.mem_cons.1 hd with rfl | hd
    · exact List.mem_append_left _ hn
    · exact List.mem_append_right _ (weightsAll_mem hd hn)
theorem weightsEach_mem : ∀ {ts : List TypeId} {l : List (DataW H)} {i : Nat} {t : TypeId} {d : DataW H} {n : Nat}, ts[i]? = some t → l[i]? = some d → n ∈ d.weights P t → n ∈ DataW.weightsEach P ts l
  | [], _, _, _, _, _, h, _, _ => by simp at h
  | _ :: _, [], _, _, _, _, _, h, _ => by simp at h
  | t' :: ts, d' :: l, 0, t, d, n, ht, hd, hn => by
    simp at ht hd
    subst ht; subst hd
    unfold DataW.weightsEach
    exact List.mem_append_left _ hn
  | t' :: ts, d' :: l, i + 1, t, d, n, ht, hd, hn => by
    unfold DataW.weightsEach
    exact List.mem_append_right _ (weightsEach_mem (by simpa using ht) (by simpa using hd) hn)

theorem open_sl {α : Type} [Inhabited α] {k bytes : Nat} {R : World → List Value → α → Prop} {t e : TypeId} {fuel : Nat} {cs : List Value} {x : DataW H × List MemPlace} (ht : P.underlying t = some (.slice e)) (hk : P.cellsOf e = k) (hb : P.bytesOf e = bytes) (hk0 : 0 < k)
    (h : DataW.trod enc P w 0 (fun _ => true) held fuel t cs = some x) (hw : Light (x.1.weights P t))
    (hR : ∀ n cs' y, DataW.trod enc P w 0 (fun _ => true) held n e cs' = some y → Light (y.1.weights P e) → ∃ z, R w cs' z) :
    ∃ v xs, cs = [v] ∧ Sl (fun b => b < w.heap.size) k bytes R w v xs := by
  rcases Go.Deep.open_slice ht h with ⟨rfl, rfl⟩ | ⟨a, len, cap, m, n, D, Pl, rfl, _, hl, hm, hmm, rfl, hx⟩
  · exact ⟨_, [], rfl, none, 0, rfl, Nat.le_refl _, by simp, .inl rfl⟩
  have hmc : m = cap := by simpa using hmm
  subst hmc
  unfold DataW.weights at hw
  rw [ht] at hw
  simp only [List.length_map, List.length_range] at hw
  have h1 : (len + (m - len)) * P.bytesOf e ≤ reachBytes := hw _ (List.mem_cons_self ..)
  rw [hb] at h1
  have hlight : ∀ i, i < len → Light ((D i).weights P e) := fun i hi q hq => hw q (List.mem_cons_of_mem _ (List.mem_append_left _ (weightsAll_mem (List.mem_map.2 ⟨i, List.mem_range.2 hi, rfl⟩) hq)))
  obtain ⟨f, hf⟩ := Go.Deep.choose_lt (α := α) (n := len) (p := fun i z => ∃ cs', w.cells? 0 (a.add (i * P.cellsOf e)) (P.cellsOf e) = some cs' ∧ R w cs' z) (fun i hi => by
    obtain ⟨cs', g1, g2⟩ := hx i (by omega)
    obtain ⟨z, hz⟩ := hR n cs' _ g2 (hlight i hi)
    exact ⟨z, cs', g1, hz⟩)
  rw [hk] at hf
  obtain ⟨ab, ao, asp⟩ := a
  refine ⟨_, (List.range len).map f, rfl, some ⟨ab, ao, asp⟩, m, by simp, by simpa using hl, ?_, ?_⟩
  · simp only [List.length_map, List.length_range]
    have : len * bytes ≤ (len + (m - len)) * bytes := Nat.mul_le_mul_right _ (by omega)
    unfold reachBytes at h1
    omega
  · by_cases h0 : len = 0
    · subst h0; exact .inl rfl
    right
    have hcell : ∀ i, i < len → ∃ cs', cs'.length = k ∧ (∀ j, j < k → w.cell? ((⟨ab, ao, asp⟩ : Addr).add (i * k + j)) = cs'[j]?) ∧ R w cs' (f i) := fun i hi => by
      obtain ⟨cs', g1, g2⟩ := hf i hi
      obtain ⟨_, g3, g4⟩ := World.cells?_some g1
      exact ⟨cs', g3, fun j hj => by rw [← Go.Deep.add_add]; exact g4 j hj, g2⟩
    have hsp : asp = none := by
      obtain ⟨cs', g3, g4, _⟩ := hcell 0 (by omega)
      have := g4 0 hk0
      rw [List.getElem?_eq_getElem (by omega)] at this
      simp only [Nat.zero_mul, Nat.add_zero, Addr.add, if_pos] at this
      unfold World.cell? at this
      cases asp with
      | none => rfl
      | some s => split at this <;> simp at this
    subst hsp
    have hadd : ∀ j, (⟨ab, ao, none⟩ : Addr).add j = ⟨ab, ao + j, none⟩ := fun j => by
      unfold Addr.add
      split
      · next h => subst h; rfl
      · rfl
    refine ⟨ab, ao, rfl, ?_, fun i hi => ?_⟩
    · obtain ⟨cs', g3, g4, _⟩ := hcell 0 (by omega)
      have := g4 0 hk0
      rw [List.getElem?_eq_getElem (by omega), hadd] at this
      exact World.block_lt_of_cell? _ _ this
    · have hi' : i < len := by simpa using hi
      obtain ⟨cs', g3, g4, g5⟩ := hcell i hi'
      refine ⟨cs', g3, fun j hj => ?_, ?_⟩
      · have := g4 j (by omega)
        rw [hadd, List.getElem?_eq_getElem hj, ← Nat.add_assoc] at this
        exact this
      · simpa using g5

theorem open_field {t : TypeId} {fs : Array Field} {fuel : Nat} {cs : List Value} {x : DataW H × List MemPlace} (ht : P.underlying t = some (.struct fs)) (h : DataW.trod enc P w 0 (fun _ => true) held fuel t cs = some x) (hw : Light (x.1.weights P t)) (i : Nat) (f : Field) (hf : fs[i]? = some f) :
    ∃ n y, DataW.trod enc P w 0 (fun _ => true) held n f.type ((cs.drop f.offset).take (P.cellsOf f.type)) = some y ∧ Light (y.1.weights P f.type) := by
  obtain ⟨xs, n, rfl, rfl, hl, hx, hall⟩ := DataW.trod_struct ht h
  have hi : i < fs.size := (Array.getElem?_eq_some_iff.1 hf).1
  have e := hall i f hf
  rw [List.getElem?_eq_getElem (by omega)] at e
  refine ⟨n, _, e, fun q hq => hw q ?_⟩
  unfold DataW.weights
  rw [ht]
  refine weightsEach_mem (i := i) (t := f.type) (d := (xs[i]'(by omega)).1) ?_ ?_ hq
  · simp [hf]
  · simp only [List.getElem?_map]
    rw [List.getElem?_eq_getElem (by omega)]
    rfl
theorem struct_len {t : TypeId} {fs : Array Field} {fuel : Nat} {cs : List Value} {x : DataW H × List MemPlace} (ht : P.underlying t = some (.struct fs)) (h : DataW.trod enc P w 0 (fun _ => true) held fuel t cs = some x) : cs.length = P.cellsOf t := by
  obtain ⟨xs, n, rfl, rfl, hl, hx, hall⟩ := DataW.trod_struct ht h
  exact hl
theorem six_of {cs : List Value} (h : cs.length = 6) : ∃ c0 c1 c2 c3 c4 c5, cs = [c0, c1, c2, c3, c4, c5] := by
  match cs, h with
  | [c0, c1, c2, c3, c4, c5], _ => exact ⟨c0, c1, c2, c3, c4, c5, rfl⟩
theorem seven_of {cs : List Value} (h : cs.length = 7) : ∃ c0 c1 c2 c3 c4 c5 c6, cs = [c0, c1, c2, c3, c4, c5, c6] := by
  match cs, h with
  | [c0, c1, c2, c3, c4, c5, c6], _ => exact ⟨c0, c1, c2, c3, c4, c5, c6, rfl⟩
theorem fits_wf {n : Int} (h : (Lit.int .i64 n).wf = true) : Fits n := by
  have := bounds_i64 h
  exact this
end

section
variable {H : Type} {enc : TypeId × Value → H} {w : World} {held : Bool}

theorem open_inst {fuel : Nat} {cs : List Value} {x : DataW H × List MemPlace} (h : DataW.trod enc Tryz.prog w 0 (fun _ => true) held fuel 120 cs = some x) (hw : Light (x.1.weights Tryz.prog 120)) : ∃ z, InstIs w cs z := by
  obtain ⟨c0, c1, c2, c3, c4, c5, c6, rfl⟩ := seven_of ((struct_len Tryz.underlying120 h).trans (by kernel_rfl))
  obtain ⟨n0, y0, f0, _⟩ := open_field Tryz.underlying120 h hw 0 _ rfl
  obtain ⟨n1, y1, f1, _⟩ := open_field Tryz.underlying120 h hw 1 _ rfl
  obtain ⟨n2, y2, f2, _⟩ := open_field Tryz.underlying120 h hw 2 _ rfl
  obtain ⟨n3, y3, f3, l3⟩ := open_field Tryz.underlying120 h hw 3 _ rfl
  obtain ⟨m0, y0', g0, _⟩ := open_field Tryz.underlying118 f3 l3 0 _ rfl
  obtain ⟨m1, y1', g1, _⟩ := open_field Tryz.underlying118 f3 l3 1 _ rfl
  obtain ⟨m2, y2', g2, _⟩ := open_field Tryz.underlying118 f3 l3 2 _ rfl
  obtain ⟨m3, y3', g3, _⟩ := open_field Tryz.underlying118 f3 l3 3 _ rfl
  obtain ⟨v0, e0, _, b0⟩ := DataW.trod_int (k := .i64) (by kernel_rfl) f0
  obtain ⟨v1, e1, _, b1⟩ := DataW.trod_int (k := .i64) (by kernel_rfl) f1
  obtain ⟨v2, e2, _, b2⟩ := DataW.trod_string (by kernel_rfl) f2
  obtain ⟨v3, e3, _⟩ := DataW.trod_bool (by kernel_rfl) g0
  obtain ⟨v4, e4, _, b4⟩ := DataW.trod_string (by kernel_rfl) g1
  obtain ⟨v5, e5, _, b5⟩ := DataW.trod_string (by kernel_rfl) g2
  obtain ⟨v6, e6, _, b6⟩ := DataW.trod_string (by kernel_rfl) g3
  change [c0] = _ at e0; change [c1] = _ at e1; change [c2] = _ at e2; change [c3] = _ at e3; change [c4] = _ at e4; change [c5] = _ at e5; change [c6] = _ at e6
  cases e0; cases e1; cases e2; cases e3; cases e4; cases e5; cases e6
  exact ⟨⟨v0, v1, v2, ⟨v3, v4, v5, v6⟩⟩, rfl, fits_wf b0, fits_wf b1, b2, b4, b5, b6⟩

theorem open_meth {fuel : Nat} {cs : List Value} {x : DataW H × List MemPlace} (h : DataW.trod enc Tryz.prog w 0 (fun _ => true) held fuel 55 cs = some x) (hw : Light (x.1.weights Tryz.prog 55)) : ∃ z, MethIs (fun b => b < w.heap.size) w cs z := by
  obtain ⟨c0, c1, c2, c3, c4, c5, rfl⟩ := six_of ((struct_len Tryz.underlying55 h).trans (by kernel_rfl))
  obtain ⟨n0, y0, f0, _⟩ := open_field Tryz.underlying55 h hw 0 _ rfl
  obtain ⟨n1, y1, f1, _⟩ := open_field Tryz.underlying55 h hw 1 _ rfl
  obtain ⟨n2, y2, f2, _⟩ := open_field Tryz.underlying55 h hw 2 _ rfl
  obtain ⟨n3, y3, f3, _⟩ := open_field Tryz.underlying55 h hw 3 _ rfl
  obtain ⟨n4, y4, f4, _⟩ := open_field Tryz.underlying55 h hw 4 _ rfl
  obtain ⟨n5, y5, f5, l5⟩ := open_field Tryz.underlying55 h hw 5 _ rfl
  obtain ⟨v0, e0, _, b0⟩ := DataW.trod_string (by kernel_rfl) f0
  obtain ⟨v1, e1, _, b1⟩ := DataW.trod_string (by kernel_rfl) f1
  obtain ⟨v2, e2, _, b2⟩ := DataW.trod_int (k := .i64) (by kernel_rfl) f2
  obtain ⟨v3, e3, _, b3⟩ := DataW.trod_int (k := .i64) (by kernel_rfl) f3
  obtain ⟨v4, e4, _, b4⟩ := DataW.trod_int (k := .i64) (by kernel_rfl) f4
  obtain ⟨v5, xs, e5, h5⟩ := open_sl (R := InstIs) (k := 7) (bytes := 88) (e := 120) (by kernel_rfl) (by kernel_rfl) (by kernel_rfl) (by decide) f5 l5 (fun n cs' y hy hl => open_inst hy hl)
  change [c0] = _ at e0; change [c1] = _ at e1; change [c2] = _ at e2; change [c3] = _ at e3; change [c4] = _ at e4; change [c5] = _ at e5
  cases e0; cases e1; cases e2; cases e3; cases e4; cases e5
  exact ⟨⟨v0, v1, v2, v3, v4, xs⟩, _, rfl, b0, b1, fits_wf b2, fits_wf b3, fits_wf b4, h5⟩

theorem open_class {fuel : Nat} {cs : List Value} {x : DataW H × List MemPlace} (h : DataW.trod enc Tryz.prog w 0 (fun _ => true) held fuel 26 cs = some x) (hw : Light (x.1.weights Tryz.prog 26)) : ∃ z, ClsIs (fun b => b < w.heap.size) w cs z := by
  obtain ⟨c0, c1, c2, c3, c4, c5, rfl⟩ := six_of ((struct_len Tryz.underlying26 h).trans (by kernel_rfl))
  obtain ⟨n0, y0, f0, _⟩ := open_field Tryz.underlying26 h hw 0 _ rfl
  obtain ⟨n1, y1, f1, _⟩ := open_field Tryz.underlying26 h hw 1 _ rfl
  obtain ⟨n2, y2, f2, l2⟩ := open_field Tryz.underlying26 h hw 2 _ rfl
  obtain ⟨n3, y3, f3, _⟩ := open_field Tryz.underlying26 h hw 3 _ rfl
  obtain ⟨n4, y4, f4, _⟩ := open_field Tryz.underlying26 h hw 4 _ rfl
  obtain ⟨n5, y5, f5, l5⟩ := open_field Tryz.underlying26 h hw 5 _ rfl
  obtain ⟨v0, e0, _, b0⟩ := DataW.trod_string (by kernel_rfl) f0
  obtain ⟨v1, e1, _, b1⟩ := DataW.trod_string (by kernel_rfl) f1
  obtain ⟨v2, is, e2, h2⟩ := open_sl (R := StrIs) (k := 1) (bytes := 16) (e := 9) (by kernel_rfl) (by kernel_rfl) (by kernel_rfl) (by decide) f2 l2 (fun n cs' y hy hl => by
    obtain ⟨s, e, _, b⟩ := DataW.trod_string (by kernel_rfl) hy
    exact ⟨s, e, b⟩)
  obtain ⟨v3, e3, _, b3⟩ := DataW.trod_int (k := .i64) (by kernel_rfl) f3
  obtain ⟨v4, e4, _, b4⟩ := DataW.trod_int (k := .i64) (by kernel_rfl) f4
  obtain ⟨v5, xs, e5, h5⟩ := open_sl (R := MethIs (fun b => b < w.heap.size)) (k := 6) (bytes := 80) (e := 55) (by kernel_rfl) (by kernel_rfl) (by kernel_rfl) (by decide) f5 l5 (fun n cs' y hy hl => open_meth hy hl)
  change [c0] = _ at e0; change [c1] = _ at e1; change [c2] = _ at e2; change [c3] = _ at e3; change [c4] = _ at e4; change [c5] = _ at e5
  cases e0; cases e1; cases e2; cases e3; cases e4; cases e5
  exact ⟨⟨v0, v1, is, v3, v4, xs⟩, _, _, rfl, b0, b1, h2, fits_wf b3, fits_wf b4, h5⟩

theorem open_classes {t : TypeId} (ht : Tryz.prog.underlying t = some (.slice 26)) {v : Value} {r : Reach} {b0 : Nat} (hval : Value.okWide Tryz.prog w r b0 t v) {d : DataW H} {ps : List MemPlace} (h : DataW.Trod enc Tryz.prog w 0 (fun _ => true) held t v d ps) (hw : Light (d.weights Tryz.prog t)) :
    ∃ xs, ClsSl (fun b => b < w.heap.size) w v xs := by
  obtain ⟨a, len, cap, rfl⟩ := WideShapes.okWide_slice ht hval
  obtain ⟨fuel, hf⟩ := h
  obtain ⟨v', xs, e, hs⟩ := open_sl (R := ClsIs (fun b => b < w.heap.size)) (k := 6) (bytes := 96) (e := 26) ht (by kernel_rfl) (by kernel_rfl) (by decide) hf hw (fun n cs' y hy hl => open_class hy hl)
  simp only [Value.cells] at e
  have : Value.slice a len cap = v' := by simpa using e
  subst this
  exact ⟨xs, hs⟩
end
end Go.Proofs.YtipinmbpdgjalaaGreatDoor.Hi
/- A row over classes: what its wrap hands on. -/
set_option maxRecDepth 100000
set_option linter.unusedVariables false
set_option linter.unusedSimpArgs false
namespace Go.Proofs.YtipinmbpdgjalaaGreatDoor.Hi
open Go.RowKit Go.ChangeShapes Bs

section
variable {H : Type} {enc : TypeId × Value → H} {f : FuncId} {fn : Func}
/-- The wrap of a row that lists variables, with the world's shape. -/
theorem returns_shaped {a : Assume} {C : Checked} {os : Os} {s : ChangeSpec} {conds : List PathCond} {apart fresh handsOn again : Bool} {X : World → Array Value → Prop}
    (hX : ∀ (w w' : World) (args : Array Value), w.heap = w'.heap → X w args → X w' args)
    (own : ownKnob C.prog.godebug = none) (started : os.Started) (noInit : C.prog.inits.idxOf? f = none) (hfn : C.prog.funcs[f]? = some fn)
    (witness : ∃ (w : World) (tape : Tape) (i : Input), w.os = os ∧ (w.forCall tape i).Shaped C.prog ∧ i.vars = [] ∧ Input.okWide C.prog (w.forCall tape i) .any w.heap.size f i ∧
      ((s.pre enc C.prog fn conds apart (w.forCall tape i).memory i.args ∧ X (w.forCall tape i).memory i.args) ∧ sizedMet enc C.prog fn (OpenSpec.ofChange s) apart (w.forCall tape i).memory i.args) ∧ a.holds C.prog (lone (Frame.enter C.prog f i.args .normal) [] (w.forCall tape i)))
    (contract : ∀ (W : World) (base : Nat) (args : Array Value) (ds gs : List (DataW H)) (before : List MemPlace),
      (∀ (j : Nat) t v, fn.params[j]? = some t → args[j]? = some v → Value.okWide C.prog W .any base t v) →
      DataW.Whole enc C.prog fn.params.toList s.vars apart W args.toList ds gs before →
      conds.all (PathCond.test C.prog ⟨fn.params.toList, ds, s.plain.varTypes C.prog, gs⟩) = true →
      (DataW.weightsEach C.prog (fn.params.toList ++ s.plain.varTypes C.prog) (ds ++ gs)).all (· ≤ reachBytes) = true → X W args →
      W.ShapedOpen C.prog →
      Calls C.prog f args W fun e W' => ∃ v, e = .returned v ∧ s.post enc C.prog fn apart fresh handsOn again W args v W') :
    ReturnsInHanded a C os f .any (fun w args => (s.pre enc C.prog fn conds apart w args ∧ X w args) ∧ sizedMet enc C.prog fn (OpenSpec.ofChange s) apart w args) (s.post enc C.prog fn apart fresh handsOn again) := by
  refine returnsInHanded_of_calls own started noInit witness ?_
  intro w tape i _ hsh _ hok hpre hholds
  obtain ⟨_, _, _, fn', hfn', _, _, _, _, hval⟩ := hok
  have e : fn' = fn := Option.some.inj (hfn'.symm.trans hfn)
  subst e
  obtain ⟨⟨⟨ds, gs, before, hw, hc⟩, hx⟩, hz⟩ := hpre
  have hw' := DataW.Whole.of_heap (w' := w.forCall tape i) (by rfl) hw
  refine (contract (w.forCall tape i) w.heap.size i.args ds gs before hval hw' hc (hz.weights hw) (hX _ _ _ (by rfl) hx) hsh).mono fun e W' ⟨v, he, hp⟩ => ?_
  subst he
  exact ChangeSpec.post_blind hp
end

theorem env_of_shaped {w : World} (h : w.ShapedOpen Tryz.prog) : Lf.Env w :=
  cell_of_shapedOpen_int (g := 0) (t := 3) (zero := #[.int .i64 0]) (k := .i64) h (of_decide_eq_true (by kernel_rfl)) (by kernel_rfl) rfl (by kernel_rfl) (by kernel_rfl) Tryz.underlying3

section
variable {H : Type} {enc : TypeId × Value → H} {w : World} {held : Bool}
theorem light_of {ts : List TypeId} {ds : List (DataW H)} (h : (DataW.weightsEach Tryz.prog ts ds).all (· ≤ reachBytes) = true) {j : Nat} {t : TypeId} {d : DataW H} (ht : ts[j]? = some t) (hd : ds[j]? = some d) : Light (d.weights Tryz.prog t) := fun n hn => by
  have := List.all_eq_true.1 h n (weightsEach_mem ht hd hn)
  simpa using this
theorem classes_arg {t : TypeId} (ht : Tryz.prog.underlying t = some (.slice 26)) {v : Value} {r : Reach} {b0 : Nat} (hval : Value.okWide Tryz.prog w r b0 t v) {d : DataW H} {ps : List MemPlace} (h : DataW.Trod enc Tryz.prog w 0 (fun _ => true) held t v d ps) (hw : Light (d.weights Tryz.prog t)) :
    ∃ a c xs, v = .slice a (List.length xs) c ∧ ClsSl (fun b => b < w.heap.size) w (.slice a (List.length xs) c) xs := by
  obtain ⟨xs, hx⟩ := open_classes ht hval h hw
  obtain ⟨a, c, rfl, _⟩ := id hx
  exact ⟨a, c, xs, rfl, hx⟩
theorem class_arg {v : Value} {r : Reach} {b0 : Nat} (hval : Value.okWide Tryz.prog w r b0 26 v) {d : DataW H} {ps : List MemPlace} (h : DataW.Trod enc Tryz.prog w 0 (fun _ => true) held 26 v d ps) (hw : Light (d.weights Tryz.prog 26)) :
    ∃ (cs : List Value) (c : ClsM), v = .agg cs.toArray ∧ ClsIs (fun b => b < w.heap.size) w cs c := by
  obtain ⟨cs, rfl, hsz⟩ := WideShapes.okWide_struct Tryz.underlying26 hval
  obtain ⟨fuel, hf⟩ := h
  obtain ⟨c, hc⟩ := open_class hf hw
  refine ⟨cs.toList, c, by simp, ?_⟩
  simpa [Value.cells] using hc
end
end Go.Proofs.YtipinmbpdgjalaaGreatDoor.Hi
