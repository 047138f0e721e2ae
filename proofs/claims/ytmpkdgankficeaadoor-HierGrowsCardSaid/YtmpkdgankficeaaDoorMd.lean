/- The model: classes, methods, entries; and what stands for them in memory. A step of append for regions that draw their order. -/
import Derived.Test.YtmpkdgankficeaaDoorBs
import Derived.Test.YtmpkdgankficeaaDoorProg
import Derived.Maps.Own
import Derived.Maps.OwnSet
import Derived.Deep.RegionLaw
set_option linter.unusedVariables false
set_option linter.unusedSimpArgs false
namespace Go.Proofs.YtmpkdgankficeaaDoor.Hi
open Go.RowKit Bs

/-- append onto a row of the call's own, as one step of a region that draws its order. -/
theorem step_append_own {P : Program} {ops : Array Oper} {o : Oper} {a : Act} {w : World} {K : Act → World → Prop} {Q : Exit → Act → World → Prop} {E : Prop}
    (hg : o.guard = none) (s x : Operand) (t : TypeId) (hop : o.op = Op.call { callee := Callee.builtin Builtin.append, args := #[s, x], argTypes := #[t, t] })
    (base : Nat) (e : TypeId) (i : TypeInfo) (z : Value) (size bytes : Nat) (h1 : P.underlying t = some (.slice e)) (h2 : P.info? e = some i) (h3 : i.zero = some z) (h4 : i.size = size) (h5 : i.bytes = bytes) (h6 : z.cells.size = size) (h7 : 0 < size)
    (v : Value) (n : Nat) (xs : List Value) (hs : a.eval s = v) (hown : w.ownsRow base e size v n xs)
    (ad : Addr) (m c : Nat) (news : List Value) (hx : a.eval x = .slice (some ad) m c) (hn : news.length = m * size) (hc : ∀ j u, news[j]? = some u → w.cell? (ad.add j) = some u) (h1c : ∀ u ∈ news, u.oneCell' = true)
    (b1 : n + m ≤ maxLen) (b2 : (n + m) * bytes ≤ 140737488355328) (hb : base ≤ w.heap.size)
    (hK : ∀ v' w', w'.ownsRow base e size v' (n + m) (xs ++ news) → w.grownBy w' v.ownBlock → K (a.put o.dst v') w') :
    if Region.wanted o (yielded ops a.tmps) = true then Oper.wp P o a w K Q else E := by
  have hw : Region.wanted o (yielded ops a.tmps) = true := by simp [Region.wanted, hg]
  rw [if_pos hw]
  obtain ⟨v', w', hrun, r1, r2, _⟩ := run_append_own (P := P) w base t o.type e i z size bytes h1 h2 h3 h4 h5 h6 h7 v n xs hown ad m c news hn hc h1c b1 b2 hb
  unfold Oper.wp
  simp [execOp, hop, resolve, invoke, builtin, hs, hx, hrun, Result.andThen]
  exact hK v' w' r1 r2

/-- A reference. -/
structure RefM where
  iface : Bool
  cls : ByteArray
  name : ByteArray
  desc : ByteArray
  deriving DecidableEq, Inhabited
/-- An instruction. -/
structure InstM where
  op : Int
  n : Int
  ty : ByteArray
  ref : RefM
  deriving DecidableEq, Inhabited
/-- A method. -/
structure MethM where
  name : ByteArray
  desc : ByteArray
  flags : Int
  locals : Int
  stack : Int
  code : List InstM
  deriving DecidableEq, Inhabited
/-- A class. -/
structure ClsM where
  name : ByteArray
  super : ByteArray
  ifaces : List ByteArray
  flags : Int
  loader : Int
  meths : List MethM
  deriving DecidableEq, Inhabited
/-- A class in its world. -/
structure EntM where
  c : ClsM
  above : Int
  depth : Int
  closure : List Int
  deriving Inhabited

/-- A number that an int holds. -/
def Fits (x : Int) : Prop := -9223372036854775808 ≤ x ∧ x ≤ 9223372036854775807

/-- A slice in memory of elements of k cells and so many bytes; R: what an element's cells stand for; S: the blocks it lies in. -/
def Sl {α : Type} (S : Nat → Prop) (k bytes : Nat) (R : World → List Value → α → Prop) (w : World) (v : Value) (xs : List α) : Prop :=
  ∃ (a : Option Addr) (c : Nat), v = .slice a xs.length c ∧ xs.length ≤ c ∧ xs.length * bytes ≤ 140737488355328 ∧
    (xs = [] ∨ ∃ b o, a = some ⟨b, o, none⟩ ∧ S b ∧ ∀ i (h : i < xs.length), ∃ cs : List Value, cs.length = k ∧ (∀ j (hj : j < cs.length), w.cell? ⟨b, o + i * k + j, none⟩ = some cs[j]) ∧ R w cs xs[i])

/-- Two worlds are alike at S. -/
def Alike (S : Nat → Prop) (w w' : World) : Prop := ∀ k, S k → w'.heap[k]? = w.heap[k]?

theorem Alike.cell {S : Nat → Prop} {w w' : World} (h : Alike S w w') {b o : Nat} (hb : S b) : w'.cell? ⟨b, o, none⟩ = w.cell? ⟨b, o, none⟩ := World.cell?_of_block (w := w) (a := ⟨b, o, none⟩) (h b hb)
theorem Alike.mono {S T : Nat → Prop} {w w' : World} (h : Alike S w w') (hT : ∀ k, T k → S k) : Alike T w w' := fun k hk => h k (hT k hk)
theorem Alike.trans {S : Nat → Prop} {w w' w'' : World} (h : Alike S w w') (h' : Alike S w' w'') : Alike S w w'' := fun k hk => (h' k hk).trans (h k hk)
theorem Alike.of_chg {F S : Nat → Prop} {w w' : World} (h : Chg F w w') (hS : ∀ k, S k → k < w.heap.size ∧ ¬ F k) : Alike S w w' := fun k hk => h.block k (hS k hk).1 (hS k hk).2
theorem Alike.of_below {B : Nat} {S : Nat → Prop} {w w' : World} (h : Below B w w') (hS : ∀ k, S k → k < B) : Alike S w w' := fun k hk => h.block k (hS k hk)

theorem Sl.alike {α : Type} {S : Nat → Prop} {k bytes : Nat} {R : World → List Value → α → Prop} {w w' : World} {v : Value} {xs : List α} (h : Sl S k bytes R w v xs) (ha : Alike S w w')
    (hR : ∀ cs x, R w cs x → R w' cs x) : Sl S k bytes R w' v xs := by
  obtain ⟨a, c, h1, h2, h3, h4⟩ := h
  refine ⟨a, c, h1, h2, h3, ?_⟩
  rcases h4 with h4 | ⟨b, o, e, hS, h4⟩
  · exact .inl h4
  · refine .inr ⟨b, o, e, hS, fun i hi => ?_⟩
    obtain ⟨cs, g1, g2, g3⟩ := h4 i hi
    exact ⟨cs, g1, fun j hj => (ha.cell hS).trans (g2 j hj), hR _ _ g3⟩

theorem Sl.mono {α : Type} {S T : Nat → Prop} {k bytes : Nat} {R R' : World → List Value → α → Prop} {w : World} {v : Value} {xs : List α} (h : Sl S k bytes R w v xs) (hS : ∀ k, S k → T k)
    (hR : ∀ cs x, R w cs x → R' w cs x) : Sl T k bytes R' w v xs := by
  obtain ⟨a, c, h1, h2, h3, h4⟩ := h
  refine ⟨a, c, h1, h2, h3, ?_⟩
  rcases h4 with h4 | ⟨b, o, e, hS', h4⟩
  · exact .inl h4
  · refine .inr ⟨b, o, e, hS b hS', fun i hi => ?_⟩
    obtain ⟨cs, g1, g2, g3⟩ := h4 i hi
    exact ⟨cs, g1, g2, hR _ _ g3⟩

/-! What cells stand for. -/
def IntIs (_ : World) (cs : List Value) (x : Int) : Prop := cs = [.int .i64 x] ∧ Fits x
def StrIs (_ : World) (cs : List Value) (s : ByteArray) : Prop := cs = [.string s] ∧ s.size ≤ maxLen
def InstIs (_ : World) (cs : List Value) (i : InstM) : Prop :=
  cs = [.int .i64 i.op, .int .i64 i.n, .string i.ty, .bool i.ref.iface, .string i.ref.cls, .string i.ref.name, .string i.ref.desc] ∧ Fits i.op ∧ Fits i.n ∧ i.ty.size ≤ maxLen ∧ i.ref.cls.size ≤ maxLen ∧ i.ref.name.size ≤ maxLen ∧ i.ref.desc.size ≤ maxLen
abbrev IntSl (S : Nat → Prop) := Sl S 1 8 IntIs
abbrev StrSl (S : Nat → Prop) := Sl S 1 16 StrIs
abbrev InstSl (S : Nat → Prop) := Sl S 7 88 InstIs
def MethIs (S : Nat → Prop) (w : World) (cs : List Value) (m : MethM) : Prop :=
  ∃ cv, cs = [.string m.name, .string m.desc, .int .i64 m.flags, .int .i64 m.locals, .int .i64 m.stack, cv] ∧ m.name.size ≤ maxLen ∧ m.desc.size ≤ maxLen ∧ Fits m.flags ∧ Fits m.locals ∧ Fits m.stack ∧ InstSl S w cv m.code
abbrev MethSl (S : Nat → Prop) := Sl S 6 80 (MethIs S)
def ClsIs (S : Nat → Prop) (w : World) (cs : List Value) (c : ClsM) : Prop :=
  ∃ iv mv, cs = [.string c.name, .string c.super, iv, .int .i64 c.flags, .int .i64 c.loader, mv] ∧ c.name.size ≤ maxLen ∧ c.super.size ≤ maxLen ∧ StrSl S w iv c.ifaces ∧ Fits c.flags ∧ Fits c.loader ∧ MethSl S w mv c.meths
abbrev ClsSl (S : Nat → Prop) := Sl S 6 96 (ClsIs S)

theorem IntSl.alike {S : Nat → Prop} {w w' : World} {v : Value} {xs : List Int} (h : IntSl S w v xs) (ha : Alike S w w') : IntSl S w' v xs := Sl.alike h ha fun _ _ h => h
theorem StrSl.alike {S : Nat → Prop} {w w' : World} {v : Value} {xs : List ByteArray} (h : StrSl S w v xs) (ha : Alike S w w') : StrSl S w' v xs := Sl.alike h ha fun _ _ h => h
theorem InstSl.alike {S : Nat → Prop} {w w' : World} {v : Value} {xs : List InstM} (h : InstSl S w v xs) (ha : Alike S w w') : InstSl S w' v xs := Sl.alike h ha fun _ _ h => h
theorem MethIs.alike {S : Nat → Prop} {w w' : World} {cs : List Value} {m : MethM} (h : MethIs S w cs m) (ha : Alike S w w') : MethIs S w' cs m := by
  obtain ⟨cv, h1, h2, h3, h4, h5, h6, h7⟩ := h
  exact ⟨cv, h1, h2, h3, h4, h5, h6, InstSl.alike h7 ha⟩
theorem MethSl.alike {S : Nat → Prop} {w w' : World} {v : Value} {xs : List MethM} (h : MethSl S w v xs) (ha : Alike S w w') : MethSl S w' v xs := Sl.alike h ha fun _ _ h => MethIs.alike h ha
theorem ClsIs.alike {S : Nat → Prop} {w w' : World} {cs : List Value} {c : ClsM} (h : ClsIs S w cs c) (ha : Alike S w w') : ClsIs S w' cs c := by
  obtain ⟨iv, mv, h1, h2, h3, h4, h5, h6, h7⟩ := h
  exact ⟨iv, mv, h1, h2, h3, StrSl.alike h4 ha, h5, h6, MethSl.alike h7 ha⟩
theorem ClsSl.alike {S : Nat → Prop} {w w' : World} {v : Value} {xs : List ClsM} (h : ClsSl S w v xs) (ha : Alike S w w') : ClsSl S w' v xs := Sl.alike h ha fun _ _ h => ClsIs.alike h ha

theorem IntSl.mono {S T : Nat → Prop} {w : World} {v : Value} {xs : List Int} (h : IntSl S w v xs) (hS : ∀ k, S k → T k) : IntSl T w v xs := Sl.mono h hS fun _ _ h => h
theorem StrSl.mono {S T : Nat → Prop} {w : World} {v : Value} {xs : List ByteArray} (h : StrSl S w v xs) (hS : ∀ k, S k → T k) : StrSl T w v xs := Sl.mono h hS fun _ _ h => h
theorem InstSl.mono {S T : Nat → Prop} {w : World} {v : Value} {xs : List InstM} (h : InstSl S w v xs) (hS : ∀ k, S k → T k) : InstSl T w v xs := Sl.mono h hS fun _ _ h => h
theorem MethIs.mono {S T : Nat → Prop} {w : World} {cs : List Value} {m : MethM} (h : MethIs S w cs m) (hS : ∀ k, S k → T k) : MethIs T w cs m := by
  obtain ⟨cv, h1, h2, h3, h4, h5, h6, h7⟩ := h
  exact ⟨cv, h1, h2, h3, h4, h5, h6, InstSl.mono h7 hS⟩
theorem MethSl.mono {S T : Nat → Prop} {w : World} {v : Value} {xs : List MethM} (h : MethSl S w v xs) (hS : ∀ k, S k → T k) : MethSl T w v xs := Sl.mono h hS fun _ _ h => MethIs.mono h hS
theorem ClsIs.mono {S T : Nat → Prop} {w : World} {cs : List Value} {c : ClsM} (h : ClsIs S w cs c) (hS : ∀ k, S k → T k) : ClsIs T w cs c := by
  obtain ⟨iv, mv, h1, h2, h3, h4, h5, h6, h7⟩ := h
  exact ⟨iv, mv, h1, h2, h3, StrSl.mono h4 hS, h5, h6, MethSl.mono h7 hS⟩

/-- A slice out of a row of the call's own. -/
theorem IntSl.of_own {w : World} {B : Nat} {E : TypeId} {v : Value} {xs : List Int} (h : w.ownsRow B E 1 v xs.length (xs.map (Value.int .i64))) (hx : ∀ x ∈ xs, Fits x) (hl : xs.length * 8 ≤ 140737488355328)
    (S : Nat → Prop) (hS : ∀ b, v.ownBlock = some b → S b) : IntSl S w v xs := by
  obtain ⟨h1, h2⟩ := h
  rcases h2 with ⟨rfl, h2⟩ | ⟨g, cap, cur, rfl, hg, hh, hc, _, hcur, htake⟩
  · have : xs = [] := List.eq_nil_of_length_eq_zero h2
    subst this
    exact ⟨none, 0, rfl, Nat.le_refl _, by simp, .inl rfl⟩
  · refine ⟨_, cap, rfl, hc, hl, .inr ⟨g, 0, rfl, hS g rfl, fun i hi => ⟨[.int .i64 xs[i]], rfl, fun j hj => ?_, rfl, hx _ (List.getElem_mem hi)⟩⟩⟩
    have hj0 : j = 0 := by simpa using hj
    subst hj0
    have e : cur.toList[i]? = some (.int .i64 xs[i]) := by
      have : (cur.toList.take (xs.length * 1))[i]? = some (.int .i64 xs[i]) := by rw [htake]; simp [hi]
      rw [List.getElem?_take] at this
      rwa [if_pos (by omega)] at this
    simp only [World.cell?, hh]
    simpa using e

/-- A slice as the library's contracts want it. -/
theorem IntSl.cells {S : Nat → Prop} {w : World} {v : Value} {xs : List Int} (h : IntSl S w v xs) :
    ∃ (a : Option Addr) (c : Nat), v = .slice a xs.length c ∧ xs.length ≤ c ∧ xs.length * 8 ≤ 140737488355328 ∧ (xs = [] ∨ ∃ b o, a = some ⟨b, o, none⟩ ∧ S b ∧ ∀ i (h : i < xs.length), w.cell? ⟨b, o + i, none⟩ = some (.int .i64 xs[i]) ∧ Fits xs[i]) := by
  obtain ⟨a, c, h1, h2, h3, h4⟩ := h
  refine ⟨a, c, h1, h2, h3, ?_⟩
  rcases h4 with h4 | ⟨b, o, e, hS, h4⟩
  · exact .inl h4
  · refine .inr ⟨b, o, e, hS, fun i hi => ?_⟩
    obtain ⟨cs, g1, g2, rfl, g3⟩ := h4 i hi
    have := g2 0 (by simp)
    exact ⟨by simpa using this, g3⟩
end Go.Proofs.YtmpkdgankficeaaDoor.Hi
