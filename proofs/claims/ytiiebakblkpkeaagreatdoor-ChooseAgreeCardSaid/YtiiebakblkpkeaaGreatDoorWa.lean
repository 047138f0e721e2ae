/- Selection: what the flags of a world's methods allow; Virtual and Interface as plain functions. -/
import Derived.Test.YtiiebakblkpkeaaGreatDoorOsb
import Derived.Test.YtiiebakblkpkeaaGreatDoorKg
set_option maxRecDepth 100000
set_option maxHeartbeats 1000000
set_option linter.unusedVariables false
set_option linter.unusedSimpArgs false
namespace Go.Proofs.YtiiebakblkpkeaaGreatDoor.Hi
open Go.RowKit Bs

/-! ### Flags -/

/-- The four lowest of a flag's bits. -/
def lo4 (f : Int) : Nat := (BitVec.ofInt 64 f &&& BitVec.ofInt 64 15).toNat
theorem lo4_lt (f : Int) : lo4 f < 16 := by
  unfold lo4
  rw [BitVec.toNat_and]
  have h := Nat.and_le_right (n := (BitVec.ofInt 64 f).toNat) (m := (BitVec.ofInt 64 15).toNat)
  have e : (BitVec.ofInt 64 15).toNat = 15 := by decide
  omega
theorem bits_lo4 (f s : Int) (hs : BitVec.ofInt 64 15 &&& BitVec.ofInt 64 s = BitVec.ofInt 64 s) : bits .and .i64 f s = IntKind.i64.wrap ((BitVec.ofNat 64 (lo4 f) &&& BitVec.ofInt 64 s).toNat : Int) := by
  show IntKind.i64.wrap ((BitVec.ofInt 64 f &&& BitVec.ofInt 64 s).toNat : Int) = _
  have h1 : BitVec.ofNat 64 (lo4 f) = BitVec.ofInt 64 f &&& BitVec.ofInt 64 15 := by
    unfold lo4
    exact BitVec.eq_of_toNat_eq (by rw [BitVec.toNat_ofNat]; exact Nat.mod_eq_of_lt (BitVec.isLt _))
  rw [h1, BitVec.and_assoc, hs]
theorem lo4_cases (f : Int) : lo4 f = 0 ∨ lo4 f = 1 ∨ lo4 f = 2 ∨ lo4 f = 3 ∨ lo4 f = 4 ∨ lo4 f = 5 ∨ lo4 f = 6 ∨ lo4 f = 7 ∨ lo4 f = 8 ∨ lo4 f = 9 ∨ lo4 f = 10 ∨ lo4 f = 11 ∨ lo4 f = 12 ∨ lo4 f = 13 ∨ lo4 f = 14 ∨ lo4 f = 15 := by
  have := lo4_lt f
  omega
theorem mf_one {f : Int} {i n : Bool} (h : Lf.methodFlags f i n = true) : (bits .and .i64 (bits .and .i64 f 7) (wrap64 (bits .and .i64 f 7 - 1)) != 0) = false := by
  unfold Lf.methodFlags at h
  simp only [Bool.and_eq_true, Bool.not_eq_true'] at h
  exact h.1.1.1.2
/-- What is public and no static method. -/
theorem mf_nine {f : Int} {i n : Bool} (h : Lf.methodFlags f i n = true) (h9 : bits .and .i64 f 9 = 1) : bits .and .i64 f 8 = 0 ∧ bits .and .i64 f 1 ≠ 0 ∧ bits .and .i64 f 2 = 0 ∧ bits .and .i64 f 10 = 0 := by
  have h3 := mf_one h
  have e1 := bits_lo4 f 1 (by decide)
  have e2 := bits_lo4 f 2 (by decide)
  have e7 := bits_lo4 f 7 (by decide)
  have e8 := bits_lo4 f 8 (by decide)
  have e9 := bits_lo4 f 9 (by decide)
  have e10 := bits_lo4 f 10 (by decide)
  rw [e7] at h3
  rw [e9] at h9
  rw [e1, e2, e8, e10]
  rcases lo4_cases f with e | e | e | e | e | e | e | e | e | e | e | e | e | e | e | e <;> rw [e] at h3 h9 ⊢ <;> revert h3 h9 <;> decide +kernel
theorem open_one {f : Int} (h : bits .and .i64 f 1 ≠ 0) : openM f = 1 := by
  unfold openM
  rw [if_pos (by simpa using h)]
/-- An interface's method that is not private is public. -/
theorem mf_pub {f : Int} {n : Bool} (h : Lf.methodFlags f true n = true) (h2 : bits .and .i64 f 2 = 0) : bits .and .i64 f 1 ≠ 0 := by
  have h3 : (bits .and .i64 (bits .and .i64 f 7) 3 == 0) = false := by
    unfold Lf.methodFlags at h
    simp only [Bool.and_eq_true, Bool.not_eq_true', Bool.true_and, Bool.or_eq_false_iff] at h
    exact h.1.2.1.1
  have e1 := bits_lo4 f 1 (by decide)
  have e2 := bits_lo4 f 2 (by decide)
  have e7 := bits_lo4 f 7 (by decide)
  rw [e7] at h3
  rw [e2] at h2
  rw [e1]
  rcases lo4_cases f with e | e | e | e | e | e | e | e | e | e | e | e | e | e | e | e <;> rw [e] at h2 h3 ⊢ <;> revert h2 h3 <;> decide +kernel
theorem and_bit10 (x : Nat) : x &&& 2^10 = (x.testBit 10).toNat * 2^10 := by
  apply Nat.eq_of_testBit_eq
  intro i
  rw [Nat.testBit_and, Nat.testBit_two_pow]
  cases h : x.testBit 10 with
  | false =>
    rw [show (false.toNat * 2^10) = 0 from rfl, Nat.zero_testBit]
    by_cases e : 10 = i
    · rw [← e, h, Bool.false_and]
    · rw [decide_eq_false e, Bool.and_false]
  | true =>
    rw [show (true.toNat * 2^10) = 2^10 from rfl, Nat.testBit_two_pow]
    by_cases e : 10 = i
    · rw [← e, h, Bool.true_and]
    · rw [decide_eq_false e, Bool.and_false]
theorem bit1024 (f : Int) : bits .and .i64 f 1024 = 0 ∨ bits .and .i64 f 1024 = 1024 := by
  have h : (BitVec.ofInt 64 f &&& BitVec.ofInt 64 1024).toNat = ((BitVec.ofInt 64 f).toNat.testBit 10).toNat * 2 ^ 10 := by
    rw [BitVec.toNat_and, show (BitVec.ofInt 64 1024).toNat = 2 ^ 10 by decide]
    exact and_bit10 _
  show IntKind.i64.wrap ((BitVec.ofInt 64 f &&& BitVec.ofInt 64 1024).toNat : Int) = 0 ∨ IntKind.i64.wrap ((BitVec.ofInt 64 f &&& BitVec.ofInt 64 1024).toNat : Int) = 1024
  rw [h]
  cases (BitVec.ofInt 64 f).toNat.testBit 10
  · left; decide
  · right; decide
/-- What is private has a body. -/
theorem mf_noabs {f : Int} {i n : Bool} (h : Lf.methodFlags f i n = true) (h2 : bits .and .i64 f 2 ≠ 0) : bits .and .i64 f 1024 = 0 := by
  have h3 : (Lf.hasAll f 1024 && (bits .and .i64 f 26 != 0)) = false := by
    unfold Lf.methodFlags at h
    simp only [Bool.and_eq_true, Bool.not_eq_true'] at h
    exact h.1.1.2
  have h4 : (bits .and .i64 f 26 != 0) = true := by
    rw [bne_iff_ne]
    exact fun e => h2 (mask_zeroO (a := 26) (b := 2) (by decide) e)
  rw [h4, Bool.and_true] at h3
  rcases bit1024 f with e | e
  · exact e
  · unfold Lf.hasAll at h3
    rw [e] at h3
    cases h3
theorem mask_or {f a b c : Int} (hc : BitVec.ofInt 64 c = BitVec.ofInt 64 a ||| BitVec.ofInt 64 b) (ha : bits .and .i64 f a = 0) (hb : bits .and .i64 f b = 0) : bits .and .i64 f c = 0 := by
  have key : ∀ s : Int, bits .and .i64 f s = 0 → BitVec.ofInt 64 f &&& BitVec.ofInt 64 s = 0#64 := fun s h => BitVec.eq_of_toNat_eq (wrap_zeroO (BitVec.isLt (BitVec.ofInt 64 f &&& BitVec.ofInt 64 s)) h)
  show IntKind.i64.wrap ((BitVec.ofInt 64 f &&& BitVec.ofInt 64 c).toNat : Int) = 0
  have h : BitVec.ofInt 64 f &&& BitVec.ofInt 64 c = 0#64 := by
    rw [hc]
    have h1 := key a ha
    have h2 := key b hb
    apply BitVec.eq_of_getLsbD_eq
    intro i hi
    have g1 := congrArg (·.getLsbD i) h1
    have g2 := congrArg (·.getLsbD i) h2
    simp only [BitVec.getLsbD_and, BitVec.getLsbD_zero] at g1 g2
    simp only [BitVec.getLsbD_and, BitVec.getLsbD_or, BitVec.getLsbD_zero, Bool.and_or_distrib_left]
    rw [g1, g2]
    rfl
  rw [h]
  decide

/-- In a world each method's flags are allowed, and each is found by its name. -/
def FlA (m : List EntM) : Prop := ∀ e ∈ m, ∀ k (h : k < e.c.meths.length), Lf.methodFlags e.c.meths[k].flags (Pr.isIfc e.c) (Lf.initB e.c.meths[k].name) = true ∧ Pr.findM e.c.meths e.c.meths[k].name e.c.meths[k].desc = k
theorem flA_start : FlA startM := by
  have h : (startM.all fun e => (List.range e.c.meths.length).all fun k => match e.c.meths[k]? with
      | some x => Lf.methodFlags x.flags (Pr.isIfc e.c) (Lf.initB x.name) && decide (Pr.findM e.c.meths x.name x.desc = k)
      | none => true) = true := by decide +kernel
  intro e he k hk
  have := List.all_eq_true.1 (List.all_eq_true.1 h e he) k (List.mem_range.2 hk)
  rw [List.getElem?_eq_getElem hk] at this
  simp only [Bool.and_eq_true, decide_eq_true_eq] at this
  exact this
theorem flA_step {m : List EntM} (h : FlA m) (c : ClsM) : FlA (defM m c) := by
  unfold defM
  split
  · next hd =>
    intro e he k hk
    rcases List.mem_append.1 he with he | he
    · exact h e he k hk
    · obtain rfl := List.mem_singleton.1 he
      have hk' : k < c.meths.length := hk
      have hkc : Pr.chk c = true := by
        unfold defE at hd
        cases hk : Pr.chk c with
        | true => rfl
        | false => rw [hk] at hd; simp at hd
      unfold Pr.chk at hkc
      simp only [Bool.and_eq_true] at hkc
      have hm := List.all_eq_true.1 hkc.2 k (List.mem_range.2 hk')
      unfold Pr.methOk at hm
      rw [List.getElem?_eq_getElem hk'] at hm
      simp only [Bool.and_eq_true, decide_eq_true_eq] at hm
      have hb := hm.1
      unfold Pr.methodB at hb
      simp only [Bool.and_eq_true] at hb
      exact ⟨hb.1.2, hm.2⟩
  · exact h
theorem flA_defs (l : List ClsM) : FlA (defs l) := by
  unfold defs
  have key : ∀ (l : List ClsM) (m : List EntM), FlA m → FlA (l.foldl defM m) := fun l => by
    induction l with
    | nil => intro m h; exact h
    | cons c r ih => intro m h; exact ih _ (flA_step h c)
  exact key l _ flA_start
theorem flA_flP {m : List EntM} (h : FlA m) : FlP m := fun e he x hx h2 => by
  obtain ⟨k, hk, rfl⟩ := List.getElem_of_mem hx
  exact priv_open (h e he k hk).1 h2

/-! ### What is found by a name -/

theorem flA_at {m : List EntM} (h : FlA m) {p : Int × Int} {x : MethM} (hx : methAt m p = some x) : ∃ i n, Lf.methodFlags x.flags i n = true ∧ i = isIfaceM m p.1 := by
  obtain ⟨i, j, hi, hj, rfl, rfl⟩ := methAt_some hx
  refine ⟨_, _, (h _ (List.getElem_mem hi) j hj).1, ?_⟩
  unfold isIfaceM
  rw [entAt_nat hi]
/-- A method is what its class finds by its name and descriptor. -/
theorem find_self {m : List EntM} (h : FlA m) {p : Int × Int} {x : MethM} (hx : methAt m p = some x) : findH m p.1 x.name x.desc = (p.2, 0) := by
  obtain ⟨i, j, hi, hj, rfl, rfl⟩ := methAt_some hx
  show findH m (i : Int) _ _ = _
  rw [findH_at hi]
  unfold findE
  have := (h _ (List.getElem_mem hi) j hj).2
  rw [this]
  rw [if_neg (by omega)]
theorem find_names {m : List EntM} {c : Nat} (hc : c < m.length) {n d : ByteArray} (h : (findH m (c : Int) n d).2 = 0) : ∃ (b : Nat) (hb : b < m[c].c.meths.length), (findH m (c : Int) n d).1 = b ∧ methAt m ((c : Int), (findH m (c : Int) n d).1) = some m[c].c.meths[b] ∧ m[c].c.meths[b].name = n ∧ m[c].c.meths[b].desc = d := by
  obtain ⟨b, hb, e, hm⟩ := findH_ok hc h
  refine ⟨b, hb, e, by rw [e]; exact methAt_at hc hb, (mEq_some hm).1, (mEq_some hm).2⟩

/-- The classes of a chain are no interfaces, but where it begins at one. -/
theorem ch_classes {m : List EntM} (hw : WFm m) (ho : OrdM m) {r : Nat} (hr : r < m.length) (hi : isIfaceM m (r : Int) = false) : ∀ c ∈ ch m r, isIfaceM m c = false := by
  refine ch_ind hw (P := fun r => ∀ h : r < m.length, isIfaceM m (r : Int) = false → ∀ c ∈ ch m r, isIfaceM m c = false) ?_ ?_ r hr hr hi
  · intro h hi c hc
    rw [ch_zero hw h] at hc
    obtain rfl := List.mem_singleton.1 hc
    exact hi
  · intro a p h h0 hpa hp ih _ hi c hc
    have hpl : p < m.length := by omega
    rw [ch_step hw h h0 hp hpl] at hc
    rcases List.mem_cons.1 hc with rfl | hc
    · exact hi
    · refine ih hpl ?_ c hc
      have := (ho.sup a h h0).1
      rw [hp, Int.toNat_natCast, clsAt_at hpl] at this
      unfold isIfaceM
      rw [entAt_nat hpl]
      exact this

/-! ### The answers -/

/-- A method that was found, unless it is abstract. -/
def fndM (m : List EntM) (q : Int × Int) : (Int × Int) × Int := match methAt m q with
  | some y => if (bits .and .i64 y.flags 1024 != 0) = true then ((0, 0), 24) else (q, 0)
  | none => (q, 0)
/-- A class's instance method of a name. -/
def decM (m : List EntM) (n d : ByteArray) (c : Int) : Option (Int × Int) :=
  if (findH m c n d).2 = 0 then (match methAt m (c, (findH m c n d).1) with
    | none => none
    | some y => if statF y.flags = true then none else some (c, (findH m c n d).1))
  else none
/-- The first of a chain. -/
def upE (m : List EntM) (n d : ByteArray) (r : Nat) : Option (Int × Int) := (ch m r).findSome? (decM m n d)
/-- What invokevirtual selects, of a class and a method that are there. -/
def virE (m : List EntM) (x : MethM) (p : Int × Int) (r : Nat) : (Int × Int) × Int :=
  if isIfaceM m (r : Int) = true then ((0, 0), 2) else if statF x.flags = true then ((0, 0), 23)
  else if (firstE m x p r).2 = 0 then fndM m (firstE m x p r).1 else oneM m r x.name x.desc
/-- What invokeinterface selects. -/
def itfE (m : List EntM) (x : MethM) (p : Int × Int) (r : Nat) : (Int × Int) × Int :=
  if isIfaceM m (r : Int) = true then ((0, 0), 2) else if (bits .and .i64 x.flags 10 != 0) = true then ((0, 0), 23)
  else match upE m x.name x.desc r with
    | none => oneM m r x.name x.desc
    | some q => (match methAt m q with
      | some y => if (bits .and .i64 y.flags 1 == 0) = true then ((0, 0), 22) else fndM m q
      | none => ((0, 0), 22))
def virM (m : List EntM) (r : Int) (p : Int × Int) : (Int × Int) × Int := match entAt m r, methAt m p with
  | some _, some x => virE m x p r.toNat
  | _, _ => ((0, 0), 3)
def itfM (m : List EntM) (r : Int) (p : Int × Int) : (Int × Int) × Int := match entAt m r, methAt m p with
  | some _, some x => itfE m x p r.toNat
  | _, _ => ((0, 0), 3)
end Go.Proofs.YtiiebakblkpkeaaGreatDoor.Hi
