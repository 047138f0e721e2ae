/- Words on memory: which blocks may turn; what a slice in memory stands for. No program in sight. -/
import Derived.Below
import Derived.WalkKit
import Derived.Laws.NewBlocks
import Derived.Deep.QuietTactic
import Derived.Test.YtipinmbpdgjalaaGreatDoorProg
import Derived.Maps.Own
import Derived.Maps.OwnSet
import Derived.Deep.RegionLaw
set_option linter.unusedVariables false
set_option linter.unusedSimpArgs false
namespace Go.Proofs.YtipinmbpdgjalaaGreatDoor.Bs
open Go.RowKit

/-- Of what was there only blocks of F turn. -/
structure Chg (F : Nat → Prop) (w w' : World) : Prop where
  os : w'.os = w.os
  tape : w'.tape = w.tape
  output : w'.output = w.output
  size : w.heap.size ≤ w'.heap.size
  block : ∀ k, k < w.heap.size → ¬ F k → w'.heap[k]? = w.heap[k]?

variable {F G : Nat → Prop} {w w' w'' : World}

theorem Chg.refl (F : Nat → Prop) (w : World) : Chg F w w := ⟨rfl, rfl, rfl, Nat.le_refl _, fun _ _ _ => rfl⟩
theorem Chg.mono (h : Chg F w w') (hF : ∀ k, k < w.heap.size → F k → G k) : Chg G w w' := ⟨h.os, h.tape, h.output, h.size, fun k hk hg => h.block k hk fun hf => hg (hF k hk hf)⟩
/-- Two steps; what the second may turn among what is new is nobody's. -/
theorem Chg.trans (h : Chg F w w') (h' : Chg G w' w'') (hG : ∀ k, k < w.heap.size → G k → F k) : Chg F w w'' :=
  ⟨h'.os.trans h.os, h'.tape.trans h.tape, h'.output.trans h.output, Nat.le_trans h.size h'.size, fun k hk hf => (h'.block k (Nat.lt_of_lt_of_le hk h.size) fun hg => hf (hG k hk hg)).trans (h.block k hk hf)⟩
theorem Chg.of_below (h : Below w.heap.size w w') : Chg F w w' := ⟨h.os, h.tape, h.output, h.size, fun k hk _ => h.block k hk⟩
theorem Chg.below {B : Nat} (h : Chg F w w') (hB : B ≤ w.heap.size) (hF : ∀ k, k < B → ¬ F k) : Below B w w' := ⟨h.os, h.tape, h.output, h.size, fun k hk => h.block k (Nat.lt_of_lt_of_le hk hB) (hF k hk)⟩
theorem Chg.alloc (h : Chg F w w') (o : Obj) : Chg F w (w'.alloc o) :=
  ⟨h.os, h.tape, h.output, by have := h.size; simp; omega, fun k hk hf => (Below.heap_alloc w' o k (Nat.lt_of_lt_of_le hk h.size)).trans (h.block k hk hf)⟩
theorem Chg.setCell (h : Chg F w w') {a : Addr} (ha : w.heap.size ≤ a.block ∨ F a.block) (v : Value) : Chg F w (w'.setCell a v) :=
  ⟨h.os, h.tape, h.output, by simpa using h.size, fun k hk hf => (Below.heap_setCell w' a v k (fun e => by subst e; exact ha.elim (fun h => absurd hk (by omega)) (fun h => hf h))).trans (h.block k hk hf)⟩
theorem Chg.drew (h : Chg F w w') : Chg F w w'.drew := ⟨h.os, h.tape, h.output, h.size, h.block⟩
theorem Chg.drewN (h : Chg F w w') (n : Nat) : Chg F w (w'.drewN n) := ⟨h.os, h.tape, h.output, h.size, h.block⟩
theorem Chg.grown {row : Option Nat} (h : Chg F w w') (hg : w'.grownBy w'' row) (hr : ∀ k, row = some k → w.heap.size ≤ k ∨ F k) : Chg F w w'' :=
  ⟨hg.os.trans h.os, hg.tape.trans h.tape, hg.output.trans h.output, Nat.le_trans h.size hg.size, fun k hk hf => (hg.block k (Nat.lt_of_lt_of_le hk h.size) (fun e => (hr k e.symm).elim (fun h => absurd hk (by omega)) (fun h => hf h))).trans (h.block k hk hf)⟩
theorem Chg.cell (h : Chg F w w') {a : Addr} (ha : a.block < w.heap.size) (hf : ¬ F a.block) : w'.cell? a = w.cell? a := World.cell?_of_block (h.block a.block ha hf)
theorem Chg.cell_eq {v : Value} (h : Chg F w w') {a : Addr} (hv : w.cell? a = some v) (hf : ¬ F a.block) : w'.cell? a = some v := (h.cell (World.block_lt_of_cell? w _ hv) hf).trans hv
theorem Chg.frozen (h : Chg F w w') {a : Addr} (ha : a.block < w.heap.size) (hf : ¬ F a.block) : w'.frozen? a = w.frozen? a := World.frozen?_of_block (h.block a.block ha hf)

theorem below_cell {v : Value} {B : Nat} (h : Below B w w') {a : Addr} (hv : w.cell? a = some v) (ha : a.block < B) : w'.cell? a = some v := (h.cell (p := a) ha).trans hv
theorem below_cell' {v : Value} (h : Below w.heap.size w w') {a : Addr} (hv : w.cell? a = some v) : w'.cell? a = some v := below_cell h hv (World.block_lt_of_cell? w _ hv)

theorem setCell_same {b o : Nat} {v u : Value} (h : w.cell? ⟨b, o, none⟩ = some u) : (w.setCell ⟨b, o, none⟩ v).cell? ⟨b, o, none⟩ = some v := World.cell?_setCell_same _ _ _ h
theorem setCell_off {b o b' o' : Nat} {v : Value} (h : b ≠ b' ∨ o ≠ o') : (w.setCell ⟨b, o, none⟩ v).cell? ⟨b', o', none⟩ = w.cell? ⟨b', o', none⟩ :=
  World.cell?_setCell_other _ _ _ _ (by intro e; injection e with e1 e2; exact h.elim (fun h => h e1) (fun h => h e2))
theorem alloc_old {b o : Nat} {v : Value} {x : Obj} (h : w.cell? ⟨b, o, none⟩ = some v) : (w.alloc x).cell? ⟨b, o, none⟩ = some v := by
  rw [World.cell?_alloc_lt _ _ _ (World.block_lt_of_cell? w _ h)]; exact h

/-- Is it the same text? -/
theorem str_eq (a b : ByteArray) : (a.toList == b.toList) = decide (a = b) := by
  rw [ByteArray.toList_eq, ByteArray.toList_eq, Bool.eq_iff_iff, beq_iff_eq, decide_eq_true_iff]
  constructor
  · intro h
    cases a; cases b
    exact congrArg ByteArray.mk (Array.toList_inj.mp h)
  · rintro rfl; rfl
theorem str_ext {a b : ByteArray} (h : a.data.toList = b.data.toList) : a = b := by
  cases a; cases b
  exact congrArg ByteArray.mk (Array.toList_inj.mp h)
theorem extract_rest (s : ByteArray) (c : UInt8) (r : List UInt8) (h : s.data.toList = c :: r) : (s.extract 1 s.size).data.toList = r := by
  have h1 : (s.extract 1 s.size).data.toList = (s.data.toList.drop 1) := by
    rw [ByteArray.data_extract, Array.toList_extract]
    simp [List.extract_eq_take_drop]
    exact List.take_of_length_le (by simp)
  rw [h1, h]
  rfl
end Go.Proofs.YtipinmbpdgjalaaGreatDoor.Bs
/- The model: classes, methods, entries; and what stands for them in memory. A step of append for regions that draw their order. -/
set_option linter.unusedVariables false
set_option linter.unusedSimpArgs false
namespace Go.Proofs.YtipinmbpdgjalaaGreatDoor.Hi
open Go.RowKit Bs

/-- append onto a row of the call's own, as one step of a region that draws its order. -/
theorem step_append_own {P : Program} {ops : Array Oper} {o : Oper} {a : Act} {w : World} {K : Act → World → Prop} {Q : Exit → Act → World → Prop} {E : Prop}
    (hg : o.guard = none) (s x : Operand) (t : TypeId) (hop : o.op = Op.call { callee := Callee.builtin Builtin.append, args := #[s, x], argTypes := #[t, t] })
    (base : Nat) (e : TypeId) (i : TypeInfo) (z : Value) (size bytes : Nat) (h1 : P.underlying t = some (.slice e)) (h2 : P.info? e = some i) (h3 : i.zero = some z) (h4 : i.size = size) (h5 : i.bytes = bytes) (h6 : z.cells.size = size) (h7 : 0 < size)
    (v : Value) (n : Nat) (xs : List Value) (hs : a.eval s = v) (hown : w.ownsRow base e size v n xs)
    (ad : Addr) (m c : Nat) (news : List Value) (hx : a.eval x = .slice (some ad) m c) (hn : news.length = m * size) (hc : ∀ j u, news[j]? = some u → w.cell? (ad.add j) = some u) (h1c : ∀ u ∈ news, u.oneCell' = true)
    (b1 : n + m ≤ maxLen) (b2 : (n + m) * bytes ≤ 140737488355328) (hb : base ≤ w.heap.size)
    (hK : ∀ v' w', w'.ownsRow base e size v' (n + m) (xs ++ news) → w.grownBy w' v.ownBlock → K (a.put o.dst v') w') :
    if Region.wanted o (yielded ops a.tmps) = true then Oper.wp P o a w K Q else E := by
  have hw : Region.wanted o (yielded ops a.tmps) = true := by simp [Region.wanted, hg]
  rw [if_pos hw]
  obtain ⟨v', w', hrun, r1, r2, _⟩ := run_append_own (P := P) w base t o.type e i z size bytes h1 h2 h3 h4 h5 h6 h7 v n xs hown ad m c news hn hc h1c b1 b2 hb
  unfold Oper.wp
  simp [execOp, hop, resolve, invoke, builtin, hs, hx, hrun, Result.andThen]
  exact hK v' w' r1 r2

/-- A reference. -/
structure RefM where
  iface : Bool
  cls : ByteArray
  name : ByteArray
  desc : ByteArray
  deriving DecidableEq, Inhabited
/-- An instruction. -/
structure InstM where
  op : Int
  n : Int
  ty : ByteArray
  ref : RefM
  deriving DecidableEq, Inhabited
/-- A method. -/
structure MethM where
  name : ByteArray
  desc : ByteArray
  flags : Int
  locals : Int
  stack : Int
  code : List InstM
  deriving DecidableEq, Inhabited
/-- A class. -/
structure ClsM where
  name : ByteArray
  super : ByteArray
  ifaces : List ByteArray
  flags : Int
  loader : Int
  meths : List MethM
  deriving DecidableEq, Inhabited
/-- A class in its world. -/
structure EntM where
  c : ClsM
  above : Int
  depth : Int
  closure : List Int
  deriving Inhabited

/-- A number that an int holds. -/
def Fits (x : Int) : Prop := -9223372036854775808 ≤ x ∧ x ≤ 9223372036854775807

/-- A slice in memory of elements of k cells and so many bytes; R: what an element's cells stand for; S: the blocks it lies in. -/
def Sl {α : Type} (S : Nat → Prop) (k bytes : Nat) (R : World → List Value → α → Prop) (w : World) (v : Value) (xs : List α) : Prop :=
  ∃ (a : Option Addr) (c : Nat), v = .slice a xs.length c ∧ xs.length ≤ c ∧ xs.length * bytes ≤ 140737488355328 ∧
    (xs = [] ∨ ∃ b o, a = some ⟨b, o, none⟩ ∧ S b ∧ ∀ i (h : i < xs.length), ∃ cs : List Value, cs.length = k ∧ (∀ j (hj : j < cs.length), w.cell? ⟨b, o + i * k + j, none⟩ = some cs[j]) ∧ R w cs xs[i])

/-- Two worlds are alike at S. -/
def Alike (S : Nat → Prop) (w w' : World) : Prop := ∀ k, S k → w'.heap[k]? = w.heap[k]?

theorem Alike.cell {S : Nat → Prop} {w w' : World} (h : Alike S w w') {b o : Nat} (hb : S b) : w'.cell? ⟨b, o, none⟩ = w.cell? ⟨b, o, none⟩ := World.cell?_of_block (w := w) (a := ⟨b, o, none⟩) (h b hb)
theorem Alike.mono {S T : Nat → Prop} {w w' : World} (h : Alike S w w') (hT : ∀ k, T k → S k) : Alike T w w' := fun k hk => h k (hT k hk)
theorem Alike.trans {S : Nat → Prop} {w w' w'' : World} (h : Alike S w w') (h' : Alike S w' w'') : Alike S w w'' := fun k hk => (h' k hk).trans (h k hk)
theorem Alike.of_chg {F S : Nat → Prop} {w w' : World} (h : Chg F w w') (hS : ∀ k, S k → k < w.heap.size ∧ ¬ F k) : Alike S w w' := fun k hk => h.block k (hS k hk).1 (hS k hk).2
theorem Alike.of_below {B : Nat} {S : Nat → Prop} {w w' : World} (h : Below B w w') (hS : ∀ k, S k → k < B) : Alike S w w' := fun k hk => h.block k (hS k hk)

theorem Sl.alike {α : Type} {S : Nat → Prop} {k bytes : Nat} {R : World → List Value → α → Prop} {w w' : World} {v : Value} {xs : List α} (h : Sl S k bytes R w v xs) (ha : Alike S w w')
    (hR : ∀ cs x, R w cs x → R w' cs x) : Sl S k bytes R w' v xs := by
  obtain ⟨a, c, h1, h2, h3, h4⟩ := h
  refine ⟨a, c, h1, h2, h3, ?_⟩
  rcases h4 with h4 | ⟨b, o, e, hS, h4⟩
  · exact .inl h4
  · refine .inr ⟨b, o, e, hS, fun i hi => ?_⟩
    obtain ⟨cs, g1, g2, g3⟩ := h4 i hi
    exact ⟨cs, g1, fun j hj => (ha.cell hS).trans (g2 j hj), hR _ _ g3⟩

theorem Sl.mono {α : Type} {S T : Nat → Prop} {k bytes : Nat} {R R' : World → List Value → α → Prop} {w : World} {v : Value} {xs : List α} (h : Sl S k bytes R w v xs) (hS : ∀ k, S k → T k)
    (hR : ∀ cs x, R w cs x → R' w cs x) : Sl T k bytes R' w v xs := by
  obtain ⟨a, c, h1, h2, h3, h4⟩ := h
  refine ⟨a, c, h1, h2, h3, ?_⟩
  rcases h4 with h4 | ⟨b, o, e, hS', h4⟩
  · exact .inl h4
  · refine .inr ⟨b, o, e, hS b hS', fun i hi => ?_⟩
    obtain ⟨cs, g1, g2, g3⟩ := h4 i hi
    exact ⟨cs, g1, g2, hR _ _ g3⟩

/-! What cells stand for. -/
def IntIs (_ : World) (cs : List Value) (x : Int) : Prop := cs = [.int .i64 x] ∧ Fits x
def StrIs (_ : World) (cs : List Value) (s : ByteArray) : Prop := cs = [.string s] ∧ s.size ≤ maxLen
def InstIs (_ : World) (cs : List Value) (i : InstM) : Prop :=
  cs = [.int .i64 i.op, .int .i64 i.n, .string i.ty, .bool i.ref.iface, .string i.ref.cls, .string i.ref.name, .string i.ref.desc] ∧ Fits i.op ∧ Fits i.n ∧ i.ty.size ≤ maxLen ∧ i.ref.cls.size ≤ maxLen ∧ i.ref.name.size ≤ maxLen ∧ i.ref.desc.size ≤ maxLen
abbrev IntSl (S : Nat → Prop) := Sl S 1 8 IntIs
abbrev StrSl (S : Nat → Prop) := Sl S 1 16 StrIs
abbrev InstSl (S : Nat → Prop) := Sl S 7 88 InstIs
def MethIs (S : Nat → Prop) (w : World) (cs : List Value) (m : MethM) : Prop :=
  ∃ cv, cs = [.string m.name, .string m.desc, .int .i64 m.flags, .int .i64 m.locals, .int .i64 m.stack, cv] ∧ m.name.size ≤ maxLen ∧ m.desc.size ≤ maxLen ∧ Fits m.flags ∧ Fits m.locals ∧ Fits m.stack ∧ InstSl S w cv m.code
abbrev MethSl (S : Nat → Prop) := Sl S 6 80 (MethIs S)
def ClsIs (S : Nat → Prop) (w : World) (cs : List Value) (c : ClsM) : Prop :=
  ∃ iv mv, cs = [.string c.name, .string c.super, iv, .int .i64 c.flags, .int .i64 c.loader, mv] ∧ c.name.size ≤ maxLen ∧ c.super.size ≤ maxLen ∧ StrSl S w iv c.ifaces ∧ Fits c.flags ∧ Fits c.loader ∧ MethSl S w mv c.meths
abbrev ClsSl (S : Nat → Prop) := Sl S 6 96 (ClsIs S)

theorem IntSl.alike {S : Nat → Prop} {w w' : World} {v : Value} {xs : List Int} (h : IntSl S w v xs) (ha : Alike S w w') : IntSl S w' v xs := Sl.alike h ha fun _ _ h => h
theorem StrSl.alike {S : Nat → Prop} {w w' : World} {v : Value} {xs : List ByteArray} (h : StrSl S w v xs) (ha : Alike S w w') : StrSl S w' v xs := Sl.alike h ha fun _ _ h => h
theorem InstSl.alike {S : Nat → Prop} {w w' : World} {v : Value} {xs : List InstM} (h : InstSl S w v xs) (ha : Alike S w w') : InstSl S w' v xs := Sl.alike h ha fun _ _ h => h
theorem MethIs.alike {S : Nat → Prop} {w w' : World} {cs : List Value} {m : MethM} (h : MethIs S w cs m) (ha : Alike S w w') : MethIs S w' cs m := by
  obtain ⟨cv, h1, h2, h3, h4, h5, h6, h7⟩ := h
  exact ⟨cv, h1, h2, h3, h4, h5, h6, InstSl.alike h7 ha⟩
theorem MethSl.alike {S : Nat → Prop} {w w' : World} {v : Value} {xs : List MethM} (h : MethSl S w v xs) (ha : Alike S w w') : MethSl S w' v xs := Sl.alike h ha fun _ _ h => MethIs.alike h ha
theorem ClsIs.alike {S : Nat → Prop} {w w' : World} {cs : List Value} {c : ClsM} (h : ClsIs S w cs c) (ha : Alike S w w') : ClsIs S w' cs c := by
  obtain ⟨iv, mv, h1, h2, h3, h4, h5, h6, h7⟩ := h
  exact ⟨iv, mv, h1, h2, h3, StrSl.alike h4 ha, h5, h6, MethSl.alike h7 ha⟩
theorem ClsSl.alike {S : Nat → Prop} {w w' : World} {v : Value} {xs : List ClsM} (h : ClsSl S w v xs) (ha : Alike S w w') : ClsSl S w' v xs := Sl.alike h ha fun _ _ h => ClsIs.alike h ha

theorem IntSl.mono {S T : Nat → Prop} {w : World} {v : Value} {xs : List Int} (h : IntSl S w v xs) (hS : ∀ k, S k → T k) : IntSl T w v xs := Sl.mono h hS fun _ _ h => h
theorem StrSl.mono {S T : Nat → Prop} {w : World} {v : Value} {xs : List ByteArray} (h : StrSl S w v xs) (hS : ∀ k, S k → T k) : StrSl T w v xs := Sl.mono h hS fun _ _ h => h
theorem InstSl.mono {S T : Nat → Prop} {w : World} {v : Value} {xs : List InstM} (h : InstSl S w v xs) (hS : ∀ k, S k → T k) : InstSl T w v xs := Sl.mono h hS fun _ _ h => h
theorem MethIs.mono {S T : Nat → Prop} {w : World} {cs : List Value} {m : MethM} (h : MethIs S w cs m) (hS : ∀ k, S k → T k) : MethIs T w cs m := by
  obtain ⟨cv, h1, h2, h3, h4, h5, h6, h7⟩ := h
  exact ⟨cv, h1, h2, h3, h4, h5, h6, InstSl.mono h7 hS⟩
theorem MethSl.mono {S T : Nat → Prop} {w : World} {v : Value} {xs : List MethM} (h : MethSl S w v xs) (hS : ∀ k, S k → T k) : MethSl T w v xs := Sl.mono h hS fun _ _ h => MethIs.mono h hS
theorem ClsIs.mono {S T : Nat → Prop} {w : World} {cs : List Value} {c : ClsM} (h : ClsIs S w cs c) (hS : ∀ k, S k → T k) : ClsIs T w cs c := by
  obtain ⟨iv, mv, h1, h2, h3, h4, h5, h6, h7⟩ := h
  exact ⟨iv, mv, h1, h2, h3, StrSl.mono h4 hS, h5, h6, MethSl.mono h7 hS⟩

/-- A slice out of a row of the call's own. -/
theorem IntSl.of_own {w : World} {B : Nat} {E : TypeId} {v : Value} {xs : List Int} (h : w.ownsRow B E 1 v xs.length (xs.map (Value.int .i64))) (hx : ∀ x ∈ xs, Fits x) (hl : xs.length * 8 ≤ 140737488355328)
    (S : Nat → Prop) (hS : ∀ b, v.ownBlock = some b → S b) : IntSl S w v xs := by
  obtain ⟨h1, h2⟩ := h
  rcases h2 with ⟨rfl, h2⟩ | ⟨g, cap, cur, rfl, hg, hh, hc, _, hcur, htake⟩
  · have : xs = [] := List.eq_nil_of_length_eq_zero h2
    subst this
    exact ⟨none, 0, rfl, Nat.le_refl _, by simp, .inl rfl⟩
  · refine ⟨_, cap, rfl, hc, hl, .inr ⟨g, 0, rfl, hS g rfl, fun i hi => ⟨[.int .i64 xs[i]], rfl, fun j hj => ?_, rfl, hx _ (List.getElem_mem hi)⟩⟩⟩
    have hj0 : j = 0 := by simpa using hj
    subst hj0
    have e : cur.toList[i]? = some (.int .i64 xs[i]) := by
      have : (cur.toList.take (xs.length * 1))[i]? = some (.int .i64 xs[i]) := by rw [htake]; simp [hi]
      rw [List.getElem?_take] at this
      rwa [if_pos (by omega)] at this
    simp only [World.cell?, hh]
    simpa using e

/-- A slice as the library's contracts want it. -/
theorem IntSl.cells {S : Nat → Prop} {w : World} {v : Value} {xs : List Int} (h : IntSl S w v xs) :
    ∃ (a : Option Addr) (c : Nat), v = .slice a xs.length c ∧ xs.length ≤ c ∧ xs.length * 8 ≤ 140737488355328 ∧ (xs = [] ∨ ∃ b o, a = some ⟨b, o, none⟩ ∧ S b ∧ ∀ i (h : i < xs.length), w.cell? ⟨b, o + i, none⟩ = some (.int .i64 xs[i]) ∧ Fits xs[i]) := by
  obtain ⟨a, c, h1, h2, h3, h4⟩ := h
  refine ⟨a, c, h1, h2, h3, ?_⟩
  rcases h4 with h4 | ⟨b, o, e, hS, h4⟩
  · exact .inl h4
  · refine .inr ⟨b, o, e, hS, fun i hi => ?_⟩
    obtain ⟨cs, g1, g2, rfl, g3⟩ := h4 i hi
    have := g2 0 (by simp)
    exact ⟨by simpa using this, g3⟩
end Go.Proofs.YtipinmbpdgjalaaGreatDoor.Hi
