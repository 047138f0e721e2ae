/- A row over classes: what its wrap hands on. -/
import Derived.Test.YtmpkdgankficeaaDoorOp
import Derived.Test.YtmpkdgankficeaaDoorLv
import Derived.Shelf.Vars
import Derived.Handed
import Derived.HandedShaped
set_option maxRecDepth 100000
set_option linter.unusedVariables false
set_option linter.unusedSimpArgs false
namespace Go.Proofs.YtmpkdgankficeaaDoor.Hi
open Go.RowKit Go.ChangeShapes Bs

section
variable {H : Type} {enc : TypeId × Value → H} {f : FuncId} {fn : Func}
/-- The wrap of a row that lists variables, with the world's shape. -/
theorem returns_shaped {a : Assume} {C : Checked} {os : Os} {s : ChangeSpec} {conds : List PathCond} {apart fresh handsOn again : Bool} {X : World → Array Value → Prop}
    (hX : ∀ (w w' : World) (args : Array Value), w.heap = w'.heap → X w args → X w' args)
    (own : ownKnob C.prog.godebug = none) (started : os.Started) (noInit : C.prog.inits.idxOf? f = none) (hfn : C.prog.funcs[f]? = some fn)
    (witness : ∃ (w : World) (tape : Tape) (i : Input), w.os = os ∧ (w.forCall tape i).Shaped C.prog ∧ i.vars = [] ∧ Input.okWide C.prog (w.forCall tape i) .any w.heap.size f i ∧
      ((s.pre enc C.prog fn conds apart (w.forCall tape i).memory i.args ∧ X (w.forCall tape i).memory i.args) ∧ sizedMet enc C.prog fn (OpenSpec.ofChange s) apart (w.forCall tape i).memory i.args) ∧ a.holds C.prog (lone (Frame.enter C.prog f i.args .normal) [] (w.forCall tape i)))
    (contract : ∀ (W : World) (base : Nat) (args : Array Value) (ds gs : List (DataW H)) (before : List MemPlace),
      (∀ (j : Nat) t v, fn.params[j]? = some t → args[j]? = some v → Value.okWide C.prog W .any base t v) →
      DataW.Whole enc C.prog fn.params.toList s.vars apart W args.toList ds gs before →
      conds.all (PathCond.test C.prog ⟨fn.params.toList, ds, s.plain.varTypes C.prog, gs⟩) = true →
      (DataW.weightsEach C.prog (fn.params.toList ++ s.plain.varTypes C.prog) (ds ++ gs)).all (· ≤ reachBytes) = true → X W args →
      W.ShapedOpen C.prog →
      Calls C.prog f args W fun e W' => ∃ v, e = .returned v ∧ s.post enc C.prog fn apart fresh handsOn again W args v W') :
    ReturnsInHanded a C os f .any (fun w args => (s.pre enc C.prog fn conds apart w args ∧ X w args) ∧ sizedMet enc C.prog fn (OpenSpec.ofChange s) apart w args) (s.post enc C.prog fn apart fresh handsOn again) := by
  refine returnsInHanded_of_calls own started noInit witness ?_
  intro w tape i _ hsh _ hok hpre hholds
  obtain ⟨_, _, _, fn', hfn', _, _, _, _, hval⟩ := hok
  have e : fn' = fn := Option.some.inj (hfn'.symm.trans hfn)
  subst e
  obtain ⟨⟨⟨ds, gs, before, hw, hc⟩, hx⟩, hz⟩ := hpre
  have hw' := DataW.Whole.of_heap (w' := w.forCall tape i) (by rfl) hw
  refine (contract (w.forCall tape i) w.heap.size i.args ds gs before hval hw' hc (hz.weights hw) (hX _ _ _ (by rfl) hx) hsh).mono fun e W' ⟨v, he, hp⟩ => ?_
  subst he
  exact ChangeSpec.post_blind hp
end

theorem env_of_shaped {w : World} (h : w.ShapedOpen Tryd.prog) : Lf.Env w :=
  cell_of_shapedOpen_int (g := 0) (t := 3) (zero := #[.int .i64 0]) (k := .i64) h (of_decide_eq_true (by kernel_rfl)) (by kernel_rfl) rfl (by kernel_rfl) (by kernel_rfl) Tryd.underlying3

section
variable {H : Type} {enc : TypeId × Value → H} {w : World} {held : Bool}
theorem light_of {ts : List TypeId} {ds : List (DataW H)} (h : (DataW.weightsEach Tryd.prog ts ds).all (· ≤ reachBytes) = true) {j : Nat} {t : TypeId} {d : DataW H} (ht : ts[j]? = some t) (hd : ds[j]? = some d) : Light (d.weights Tryd.prog t) := fun n hn => by
  have := List.all_eq_true.1 h n (weightsEach_mem ht hd hn)
  simpa using this
theorem classes_arg {t : TypeId} (ht : Tryd.prog.underlying t = some (.slice 32)) {v : Value} {r : Reach} {b0 : Nat} (hval : Value.okWide Tryd.prog w r b0 t v) {d : DataW H} {ps : List MemPlace} (h : DataW.Trod enc Tryd.prog w 0 (fun _ => true) held t v d ps) (hw : Light (d.weights Tryd.prog t)) :
    ∃ a c xs, v = .slice a (List.length xs) c ∧ ClsSl (fun b => b < w.heap.size) w (.slice a (List.length xs) c) xs := by
  obtain ⟨xs, hx⟩ := open_classes ht hval h hw
  obtain ⟨a, c, rfl, _⟩ := id hx
  exact ⟨a, c, xs, rfl, hx⟩
theorem class_arg {v : Value} {r : Reach} {b0 : Nat} (hval : Value.okWide Tryd.prog w r b0 32 v) {d : DataW H} {ps : List MemPlace} (h : DataW.Trod enc Tryd.prog w 0 (fun _ => true) held 32 v d ps) (hw : Light (d.weights Tryd.prog 32)) :
    ∃ (cs : List Value) (c : ClsM), v = .agg cs.toArray ∧ ClsIs (fun b => b < w.heap.size) w cs c := by
  obtain ⟨cs, rfl, hsz⟩ := WideShapes.okWide_struct Tryd.underlying32 hval
  obtain ⟨fuel, hf⟩ := h
  obtain ⟨c, hc⟩ := open_class hf hw
  refine ⟨cs.toList, c, by simp, ?_⟩
  simpa [Value.cells] using hc
end
end Go.Proofs.YtmpkdgankficeaaDoor.Hi
