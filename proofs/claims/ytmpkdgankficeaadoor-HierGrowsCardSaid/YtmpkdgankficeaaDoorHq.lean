/- put lays a class. -/
import Derived.Test.YtmpkdgankficeaaDoorHw
import Derived.StillTailTactics
import Derived.Deep.RegionHeld3
import Derived.Deep.Onto
import Derived.Deep.LoopGhost
import Derived.LoopTactic
set_option maxRecDepth 100000
set_option linter.unusedVariables false
set_option linter.unusedSimpArgs false
namespace Go.Proofs.YtmpkdgankficeaaDoor.Hi
open Go.RowKit Bs

/-- Of the world only what is said of it is kept in sight. -/
theorem wp_gen {P : Program} {c : Code} {Q : Exit → Act → World → Prop} {a : Act} {w : World} (p : World → Prop) (h : p w) (k : ∀ w', p w' → c.wp P Q a w') : c.wp P Q a w := k w h

/-- Behind put's first steps: b: the entry; q: the variable e. -/
structure Laid (w W : World) (nm : ByteArray) (v1 v2 v5 : Value) (fl ld ab dp : Int) (cv : Value) : Prop where
  old : ∀ k, k < w.heap.size → W.heap[k]? = w.heap[k]?
  os : W.os = w.os
  tape : W.tape = w.tape
  output : W.output = w.output
  size : w.heap.size + 3 ≤ W.heap.size
  q : W.cell? ⟨w.heap.size + 1 + 1, 0, none⟩ = some (.pointer (some ⟨w.heap.size + 1, 0, none⟩))
  thaw : ∀ j, W.frozen? ⟨w.heap.size + 1, j, none⟩ = false
  n0 : W.cell? ⟨w.heap.size, 0, none⟩ = some (.string nm)
  c0 : W.cell? ⟨w.heap.size + 1, 0, none⟩ = some (.string nm)
  c1 : W.cell? ⟨w.heap.size + 1, 1, none⟩ = some v1
  c2 : W.cell? ⟨w.heap.size + 1, 2, none⟩ = some v2
  c3 : W.cell? ⟨w.heap.size + 1, 3, none⟩ = some (.int .i64 fl)
  c4 : W.cell? ⟨w.heap.size + 1, 4, none⟩ = some (.int .i64 ld)
  c5 : W.cell? ⟨w.heap.size + 1, 5, none⟩ = some v5
  c6 : W.cell? ⟨w.heap.size + 1, 6, none⟩ = some (.int .i64 ab)
  c7 : W.cell? ⟨w.heap.size + 1, 7, none⟩ = some (.int .i64 dp)
  c8 : W.cell? ⟨w.heap.size + 1, 8, none⟩ = some cv

theorem Laid.start (w : World) (nm : ByteArray) (v1 v2 v5 : Value) (fl ld ab : Int) (t0 t t' : TypeId) :
    Laid w (((w.alloc (.cells #[.string nm, v1, v2, .int .i64 fl, .int .i64 ld, v5] t0)).alloc (.cells #[.string nm, v1, v2, .int .i64 fl, .int .i64 ld, v5, .int .i64 ab, .int .i64 0, .slice none 0 0] t)).alloc (.cells #[.pointer (some ⟨w.heap.size + 1, 0, none⟩)] t')) nm v1 v2 v5 fl ld ab 0 (.slice none 0 0) := by
  have hs : ((w.alloc (.cells #[.string nm, v1, v2, .int .i64 fl, .int .i64 ld, v5] t0)).alloc (.cells #[.string nm, v1, v2, .int .i64 fl, .int .i64 ld, v5, .int .i64 ab, .int .i64 0, .slice none 0 0] t)).heap.size = w.heap.size + 1 + 1 := by simp
  have hb : ∀ j, (((w.alloc (.cells #[.string nm, v1, v2, .int .i64 fl, .int .i64 ld, v5] t0)).alloc (.cells #[.string nm, v1, v2, .int .i64 fl, .int .i64 ld, v5, .int .i64 ab, .int .i64 0, .slice none 0 0] t)).alloc (.cells #[.pointer (some ⟨w.heap.size + 1, 0, none⟩)] t')).cell? ⟨w.heap.size + 1, j, none⟩
      = (#[.string nm, v1, v2, .int .i64 fl, .int .i64 ld, v5, .int .i64 ab, .int .i64 0, .slice none 0 0] : Array Value)[j]? := fun j => by
    rw [World.cell?_alloc_lt _ _ _ (by simp)]
    have : (w.alloc (.cells #[.string nm, v1, v2, .int .i64 fl, .int .i64 ld, v5] t0)).heap.size = w.heap.size + 1 := by simp
    rw [← this, World.cell?_alloc_new]
  refine ⟨fun k hk => ?_, rfl, rfl, rfl, by simp, ?_, fun j => ?_, ?_, ?_, ?_, ?_, ?_, ?_, ?_, ?_, ?_, ?_⟩
  · rw [Below.heap_alloc _ _ _ (by simp; omega), Below.heap_alloc _ _ _ (by simp; omega), Below.heap_alloc _ _ _ hk]
  · rw [← hs, World.cell?_alloc_new]; rfl
  · rw [World.frozen?_of_block (w := (w.alloc (.cells #[.string nm, v1, v2, .int .i64 fl, .int .i64 ld, v5] t0)).alloc (.cells #[.string nm, v1, v2, .int .i64 fl, .int .i64 ld, v5, .int .i64 ab, .int .i64 0, .slice none 0 0] t)) (Below.heap_alloc _ _ _ (by simp))]
    have : (w.alloc (.cells #[.string nm, v1, v2, .int .i64 fl, .int .i64 ld, v5] t0)).heap.size = w.heap.size + 1 := by simp
    rw [← this, World.frozen?_alloc_new]
  · rw [World.cell?_alloc_lt _ _ _ (by simp; omega), World.cell?_alloc_lt _ _ _ (by simp), World.cell?_alloc_new]; rfl
  all_goals (rw [hb]; rfl)

theorem Laid.cell {w W : World} {nm : ByteArray} {v1 v2 v5 : Value} {fl ld ab dp : Int} {cv : Value} (h : Laid w W nm v1 v2 v5 fl ld ab dp cv) {a : Addr} {v : Value} (hv : w.cell? a = some v) : W.cell? a = some v :=
  (World.cell?_of_block (w := w) (a := a) (h.old a.block (World.block_lt_of_cell? w a hv))).trans hv

theorem Laid.drew {w W : World} {nm : ByteArray} {v1 v2 v5 : Value} {fl ld ab dp : Int} {cv : Value} (h : Laid w W nm v1 v2 v5 fl ld ab dp cv) : Laid w W.drew nm v1 v2 v5 fl ld ab dp cv :=
  ⟨h.old, h.os, h.tape, h.output, h.size, h.q, h.thaw, h.n0, h.c0, h.c1, h.c2, h.c3, h.c4, h.c5, h.c6, h.c7, h.c8⟩
theorem Laid.set7 {w W : World} {nm : ByteArray} {v1 v2 v5 : Value} {fl ld ab dp : Int} {cv : Value} (h : Laid w W nm v1 v2 v5 fl ld ab dp cv) (d : Int) :
    Laid w (W.setCell ⟨w.heap.size + 1, 7, none⟩ (.int .i64 d)) nm v1 v2 v5 fl ld ab d cv := by
  refine ⟨fun k hk => (Below.heap_setCell _ _ _ _ (by simp; omega)).trans (h.old k hk), h.os, h.tape, h.output, by simpa using h.size, ?_, fun j => ?_, ?_, ?_, ?_, ?_, ?_, ?_, ?_, ?_, setCell_same h.c7, ?_⟩
  · rw [setCell_off (by omega)]; exact h.q
  · rw [World.frozen?_setCell]; exact h.thaw j
  all_goals rw [setCell_off (by omega)]
  · exact h.n0
  · exact h.c0
  · exact h.c1
  · exact h.c2
  · exact h.c3
  · exact h.c4
  · exact h.c5
  · exact h.c6
  · exact h.c8
/-- The closure is set, in a world in which only new memory has come. -/
theorem Laid.set8 {w W W' : World} {nm : ByteArray} {v1 v2 v5 : Value} {fl ld ab dp : Int} {cv : Value} (h : Laid w W nm v1 v2 v5 fl ld ab dp cv) (hb : Below W.heap.size W W') (v : Value) :
    Laid w (W'.setCell ⟨w.heap.size + 1, 8, none⟩ v) nm v1 v2 v5 fl ld ab dp v := by
  have hz := h.size
  have hc : ∀ {a : Addr} {v : Value}, W.cell? a = some v → W'.cell? a = some v := fun hv => below_cell' hb hv
  refine ⟨fun k hk => ((Below.heap_setCell _ _ _ _ (by simp; omega)).trans (hb.block k (by omega))).trans (h.old k hk), hb.os.trans h.os, hb.tape.trans h.tape, hb.output.trans h.output, by have := hb.size; simp; omega, ?_, fun j => ?_, ?_, ?_, ?_, ?_, ?_, ?_, ?_, ?_, ?_, setCell_same (hc h.c8)⟩
  · rw [setCell_off (by omega)]; exact hc h.q
  · rw [World.frozen?_setCell, World.frozen?_of_block (w := W) (hb.block _ (by simp; omega))]; exact h.thaw j
  all_goals rw [setCell_off (by omega)]
  · exact hc h.n0
  · exact hc h.c0
  · exact hc h.c1
  · exact hc h.c2
  · exact hc h.c3
  · exact hc h.c4
  · exact hc h.c5
  · exact hc h.c6
  · exact hc h.c7

theorem own_slice {w : World} {B : Nat} {E : TypeId} {v : Value} {n size : Nat} {xs : List Value} (h : w.ownsRow B E size v n xs) : ∃ a c, v = .slice a n c := by
  obtain ⟨_, ⟨rfl, rfl⟩ | ⟨g, cap, cur, rfl, _⟩⟩ := h
  · exact ⟨none, 0, rfl⟩
  · exact ⟨_, cap, rfl⟩

theorem clone_ints {S : Nat → Prop} {w : World} {v : Value} {xs : List Int} (h : IntSl S w v xs) :
    Calls Tryd.prog 39 #[v] w fun e w' => ∃ a c, e = .returned (.slice a xs.length c) ∧ w'.ownsRow w.heap.size 3 1 (.slice a xs.length c) xs.length (xs.map (Value.int .i64)) ∧ Below w.heap.size w w' := by
  obtain ⟨a, c, rfl, h2, h3, h4⟩ := h.cells
  rcases h4 with rfl | ⟨b, o, rfl, _, h4⟩
  · cases a with
    | none => exact (Tryd.slices_Clone_int_nil _ c w).mono (by rintro e w' ⟨rfl, rfl⟩; exact ⟨none, 0, rfl, World.ownsRow_nil _ _ _ _, Below.refl _ _⟩)
    | some a => exact (Tryd.slices_Clone_int_zero a c w).mono (by rintro e w' ⟨v', rfl, h, _, hb⟩; obtain ⟨a, c, rfl⟩ := own_slice h; exact ⟨a, c, rfl, h, hb⟩)
  · refine (Tryd.slices_Clone_int b o xs.length c xs w (Nat.le_refl _) h3 fun j hj => ?_).mono ?_
    · rw [(h4 j hj).1]; simp [List.getD, hj]
    · rintro e w' ⟨v', rfl, h, _, hb⟩
      obtain ⟨a, c, rfl⟩ := own_slice h
      exact ⟨a, c, rfl, by rwa [List.take_length] at h, hb⟩

/-- Behind put's first steps, the closure so far being ys. -/
def PS (w : World) (nm : ByteArray) (v1 v2 v5 : Value) (fl ld ab dp : Int) (ys : List Int) (W : World) : Prop :=
  ∃ a c, Laid w W nm v1 v2 v5 fl ld ab dp (.slice a ys.length c) ∧ W.ownsRow (w.heap.size + 3) 3 1 (.slice a ys.length c) ys.length (ys.map (Value.int .i64))

theorem PS.put1 {w W W' : World} {nm : ByteArray} {v1 v2 v5 : Value} {fl ld ab dp : Int} {ys zs : List Int} (h : PS w nm v1 v2 v5 fl ld ab dp ys W) (hp : Put1 (w.heap.size + 1) (w.heap.size + 3) zs W W') :
    PS w nm v1 v2 v5 fl ld ab dp zs W' := by
  obtain ⟨a, c, h, _⟩ := h
  obtain ⟨v', p1, p2, p3, p4, p5, p6, p7, p8, p9⟩ := hp
  obtain ⟨a', c', rfl⟩ := own_slice p2
  have hz := h.size
  refine ⟨a', c', ⟨fun k hk => (p4 k (by omega) (by omega)).trans (h.old k hk), p6.trans h.os, p7.trans h.tape, p8.trans h.output, by omega, ?_, fun j => (p9 j).trans (h.thaw j), ?_, ?_, ?_, ?_, ?_, ?_, ?_, ?_, ?_, p1⟩, p2⟩
  · exact (World.cell?_of_block (w := W) (a := ⟨w.heap.size + 1 + 1, 0, none⟩) (p4 _ (by simp) (by simp))).trans h.q
  · exact (World.cell?_of_block (w := W) (a := ⟨w.heap.size, 0, none⟩) (p4 _ (by simp) (by simp))).trans h.n0
  all_goals rw [p3 _ (by omega)]
  · exact h.c0
  · exact h.c1
  · exact h.c2
  · exact h.c3
  · exact h.c4
  · exact h.c5
  · exact h.c6
  · exact h.c7

/-- Numbers below n, none twice. -/
def Okl (n : Nat) (ys : List Int) : Prop := ys.Nodup ∧ ∀ x ∈ ys, 0 ≤ x ∧ x < n
theorem Okl.len : ∀ {n : Nat} {ys : List Int}, Okl n ys → ys.length ≤ n := by
  intro n
  induction n with
  | zero =>
    intro ys h
    cases ys with
    | nil => simp
    | cons y r => have := h.2 y (by simp); omega
  | succ n ih =>
    intro ys h
    have h' : Okl n (ys.erase (n : Int)) := by
      refine ⟨h.1.erase _, fun x hx => ?_⟩
      rw [h.1.mem_erase_iff] at hx
      have := h.2 x hx.2
      have := hx.1
      omega
    have := ih h'
    rw [List.length_erase] at this
    split at this <;> omega
theorem Okl.nil (n : Nat) : Okl n [] := ⟨List.nodup_nil, by simp⟩
theorem Okl.addNew {n : Nat} {ys : List Int} (h : Okl n ys) {x : Int} (hx : 0 ≤ x ∧ x < n) : Okl n (addNew ys x) := by
  unfold Hi.addNew
  cases hc : ys.contains x
  · simp only [Bool.false_eq_true, if_false]
    refine ⟨?_, fun y hy => ?_⟩
    · rw [List.nodup_append]
      refine ⟨h.1, by simp, fun a ha b hb e => ?_⟩
      obtain rfl : b = x := by simpa using hb
      subst e
      have : ys.contains a = true := by simpa using ha
      rw [hc] at this; cases this
    · rcases List.mem_append.1 hy with hy | hy
      · exact h.2 y hy
      · obtain rfl : y = x := by simpa using hy
        exact hx
  · simpa using h
theorem Okl.addAll {n : Nat} : ∀ {xs ys : List Int}, Okl n ys → (∀ x ∈ xs, 0 ≤ x ∧ x < n) → Okl n (xs.foldl Hi.addNew ys)
  | [], ys, h, _ => h
  | x :: r, ys, h, hx => show Okl n (r.foldl Hi.addNew (Hi.addNew ys x)) from Okl.addAll (h.addNew (hx x (by simp))) fun y hy => hx y (by simp [hy])
def closAt (m : List EntM) (i : Int) : List Int := ((m[i.toNat]?).map EntM.closure).getD []
def stepC (m : List EntM) (cl : List Int) (i : Int) : List Int := addNew ((closAt m i).foldl addNew cl) i
theorem Okl.stepC {m : List EntM} {n : Nat} {ys : List Int} (h : Okl n ys) {x : Int} (hx : 0 ≤ x ∧ x < n) (hm : ∀ y ∈ closAt m x, 0 ≤ y ∧ y < n) : Okl n (stepC m ys x) := (Okl.addAll h hm).addNew hx
theorem Okl.steps {m : List EntM} {n : Nat} (hm : ∀ x y, y ∈ closAt m x → 0 ≤ y ∧ y < n) : ∀ {xs ys : List Int}, Okl n ys → (∀ x ∈ xs, 0 ≤ x ∧ x < n) → Okl n (xs.foldl (Hi.stepC m) ys)
  | [], ys, h, _ => h
  | x :: r, ys, h, hx => show Okl n (r.foldl (Hi.stepC m) (Hi.stepC m ys x)) from Okl.steps hm (h.stepC (hx x (by simp)) (hm x)) fun y hy => hx y (by simp [hy])

/-- The classes' entries, as put reads them. -/
structure Looks (S : Nat → Prop) (w : World) (bw g cap n : Nat) (m : List EntM) : Prop where
  len : m.length = n
  n300 : n ≤ 300
  all : w.cell? ⟨bw, 0, none⟩ = some (.slice (some ⟨g, 0, none⟩) n cap)
  ents : ∀ i (h : i < m.length), ∃ be a c, w.cell? ⟨g, i, none⟩ = some (.pointer (some ⟨be, 0, none⟩)) ∧ w.cell? ⟨be, 7, none⟩ = some (.int .i64 m[i].depth) ∧
    w.cell? ⟨be, 8, none⟩ = some (.slice a m[i].closure.length c) ∧ IntSl S w (.slice a m[i].closure.length c) m[i].closure ∧ be < w.heap.size
  live : ∀ k, S k → k < w.heap.size
  depth : ∀ i (h : i < m.length), 0 ≤ m[i].depth ∧ m[i].depth ≤ 300
  clos : ∀ x y, y ∈ closAt m x → 0 ≤ y ∧ y < n
  okc : ∀ i (h : i < m.length), Okl n m[i].closure

theorem IntSl.form {S : Nat → Prop} {w : World} {v : Value} {xs : List Int} (h : IntSl S w v xs) : ∃ a c, v = .slice a xs.length c := by
  obtain ⟨a, c, h, _⟩ := h
  exact ⟨a, c, h⟩

theorem HWF.looks {T : Nat → Prop} {bw : Nat} {va : Value} {bm : Nat} {ps : List Value} {D : DataW Unit} {w : World} {m : List EntM} (h : HWF T bw va bm ps D w m) (hm : 0 < m.length) :
    ∃ g cap, va = .slice (some ⟨g, 0, none⟩) m.length cap ∧ Looks T w bw g cap m.length m := by
  obtain ⟨h1, ⟨_, h2⟩ | ⟨g, cap, cur, rfl, h3, h4, h5, h6, h7, h8⟩⟩ := h.row
  · exact absurd h2 (by omega)
  · refine ⟨g, cap, rfl, rfl, h.wf.len, h.all, fun i hi => ?_, h.live, fun i hi => ?_, fun x y hy => ?_, fun i hi => ?_⟩
    · obtain ⟨v, hv, be, cs, cv, rfl, e2, e3, e4, e5, e6, e7, e8, e9⟩ := h.ents i hi
      obtain ⟨a, c, rfl⟩ := e9.form
      refine ⟨be, a, c, ?_, e7, e8, e9, h.live be e2⟩
      have e : cur.toList[i]? = some (.pointer (some ⟨be, 0, none⟩)) := by
        have : (cur.toList.take (m.length * 1))[i]? = some (.pointer (some ⟨be, 0, none⟩)) := by rw [h8]; exact hv
        rw [List.getElem?_take] at this
        rwa [if_pos (by omega)] at this
      simp only [World.cell?, h4]
      simpa using e
    · have := h.wf.depth i hi
      have := h.wf.len
      omega
    · unfold closAt at hy
      cases hx : m[x.toNat]? with
      | none => rw [hx] at hy; simp at hy
      | some e =>
        rw [hx] at hy
        obtain ⟨hl, rfl⟩ := List.getElem?_eq_some_iff.1 hx
        have := (h.wf.closed _ hl).2 y (by simpa using hy)
        omega
    · refine ⟨(h.wf.closed i hi).1, fun x hx => ?_⟩
      have := (h.wf.closed i hi).2 x hx
      omega
end Go.Proofs.YtmpkdgankficeaaDoor.Hi
