/- Selection: what the flags of a world's methods allow; Virtual and Interface as plain functions. -/
import Derived.Test.YtipinmbpdgjalaaGreatDoorOS
import Derived.Test.YtipinmbpdgjalaaGreatDoorKA
set_option maxRecDepth 100000
set_option maxHeartbeats 1000000
set_option linter.unusedVariables false
set_option linter.unusedSimpArgs false
namespace Go.Proofs.YtipinmbpdgjalaaGreatDoor.Hi
open Go.RowKit Bs

/-! ### Flags -/

/-- The four lowest of a flag's bits. -/
def lo4 (f : Int) : Nat := (BitVec.ofInt 64 f &&& BitVec.ofInt 64 15).toNat
theorem lo4_lt (f : Int) : lo4 f < 16 := by
  unfold lo4
  rw [BitVec.toNat_and]
  have h := Nat.and_le_right (n := (BitVec.ofInt 64 f).toNat) (m := (BitVec.ofInt 64 15).toNat)
  have e : (BitVec.ofInt 64 15).toNat = 15 := by decide
  omega
theorem bits_lo4 (f s : Int) (hs : BitVec.ofInt 64 15 &&& BitVec.ofInt 64 s = BitVec.ofInt 64 s) : bits .and .i64 f s = IntKind.i64.wrap ((BitVec.ofNat 64 (lo4 f) &&& BitVec.ofInt 64 s).toNat : Int) := by
  show IntKind.i64.wrap ((BitVec.ofInt 64 f &&& BitVec.ofInt 64 s).toNat : Int) = _
  have h1 : BitVec.ofNat 64 (lo4 f) = BitVec.ofInt 64 f &&& BitVec.ofInt 64 15 := by
    unfold lo4
    exact BitVec.eq_of_toNat_eq (by rw [BitVec.toNat_ofNat]; exact Nat.mod_eq_of_lt (BitVec.isLt _))
  rw [h1, BitVec.and_assoc, hs]
theorem lo4_cases (f : Int) : lo4 f = 0 ∨ lo4 f = 1 ∨ lo4 f = 2 ∨ lo4 f = 3 ∨ lo4 f = 4 ∨ lo4 f = 5 ∨ lo4 f = 6 ∨ lo4 f = 7 ∨ lo4 f = 8 ∨ lo4 f = 9 ∨ lo4 f = 10 ∨ lo4 f = 11 ∨ lo4 f = 12 ∨ lo4 f = 13 ∨ lo4 f = 14 ∨ lo4 f = 15 := by
  have := lo4_lt f
  omega
theorem mf_one {f : Int} {i n : Bool} (h : Lf.methodFlags f i n = true) : (bits .and .i64 (bits .and .i64 f 7) (wrap64 (bits .and .i64 f 7 - 1)) != 0) = false := by
  unfold Lf.methodFlags at h
  simp only [Bool.and_eq_true, Bool.not_eq_true'] at h
  exact h.1.1.1.2
/-- What is public and no static method. -/
theorem mf_nine {f : Int} {i n : Bool} (h : Lf.methodFlags f i n = true) (h9 : bits .and .i64 f 9 = 1) : bits .and .i64 f 8 = 0 ∧ bits .and .i64 f 1 ≠ 0 ∧ bits .and .i64 f 2 = 0 ∧ bits .and .i64 f 10 = 0 := by
  have h3 := mf_one h
  have e1 := bits_lo4 f 1 (by decide)
  have e2 := bits_lo4 f 2 (by decide)
  have e7 := bits_lo4 f 7 (by decide)
  have e8 := bits_lo4 f 8 (by decide)
  have e9 := bits_lo4 f 9 (by decide)
  have e10 := bits_lo4 f 10 (by decide)
  rw [e7] at h3
  rw [e9] at h9
  rw [e1, e2, e8, e10]
  rcases lo4_cases f with e | e | e | e | e | e | e | e | e | e | e | e | e | e | e | e <;> rw [e] at h3 h9 ⊢ <;> revert h3 h9 <;> decide +kernel
theorem open_one {f : Int} (h : bits .and .i64 f 1 ≠ 0) : openM f = 1 := by
  unfold openM
  rw [if_pos (by simpa using h)]
/-- An interface's method that is not private is public. -/
theorem mf_pub {f : Int} {n : Bool} (h : Lf.methodFlags f true n = true) (h2 : bits .and .i64 f 2 = 0) : bits .and .i64 f 1 ≠ 0 := by
  have h3 : (bits .and .i64 (bits .and .i64 f 7) 3 == 0) = false := by
    unfold Lf.methodFlags at h
    simp only [Bool.and_eq_true, Bool.not_eq_true', Bool.true_and, Bool.or_eq_false_iff] at h
    exact h.1.2.1.1
  have e1 := bits_lo4 f 1 (by decide)
  have e2 := bits_lo4 f 2 (by decide)
  have e7 := bits_lo4 f 7 (by decide)
  rw [e7] at h3
  rw [e2] at h2
  rw [e1]
  rcases lo4_cases f with e | e | e | e | e | e | e | e | e | e | e | e | e | e | e | e <;> rw [e] at h2 h3 ⊢ <;> revert h2 h3 <;> decide +kernel
theorem and_bit10 (x : Nat) : x &&& 2^10 = (x.testBit 10).toNat * 2^10 := by
  apply Nat.eq_of_testBit_eq
  intro i
  rw [Nat.testBit_and, Nat.testBit_two_pow]
  cases h : x.testBit 10 with
  | false =>
    rw [show (false.toNat * 2^10) = 0 from rfl, Nat.zero_testBit]
    by_cases e : 10 = i
    · rw [← e, h, Bool.false_and]
    · rw [decide_eq_false e, Bool.and_false]
  | true =>
    rw [show (true.toNat * 2^10) = 2^10 from rfl, Nat.testBit_two_pow]
    by_cases e : 10 = i
    · rw [← e, h, Bool.true_and]
    · rw [decide_eq_false e, Bool.and_false]
theorem bit1024 (f : Int) : bits .and .i64 f 1024 = 0 ∨ bits .and .i64 f 1024 = 1024 := by
  have h : (BitVec.ofInt 64 f &&& BitVec.ofInt 64 1024).toNat = ((BitVec.ofInt 64 f).toNat.testBit 10).toNat * 2 ^ 10 := by
    rw [BitVec.toNat_and, show (BitVec.ofInt 64 1024).toNat = 2 ^ 10 by decide]
    exact and_bit10 _
  show IntKind.i64.wrap ((BitVec.ofInt 64 f &&& BitVec.ofInt 64 1024).toNat : Int) = 0 ∨ IntKind.i64.wrap ((BitVec.ofInt 64 f &&& BitVec.ofInt 64 1024).toNat : Int) = 1024
  rw [h]
  cases (BitVec.ofInt 64 f).toNat.testBit 10
  · left; decide
  · right; decide
/-- What is private has a body. -/
theorem mf_noabs {f : Int} {i n : Bool} (h : Lf.methodFlags f i n = true) (h2 : bits .and .i64 f 2 ≠ 0) : bits .and .i64 f 1024 = 0 := by
  have h3 : (Lf.hasAll f 1024 && (bits .and .i64 f 26 != 0)) = false := by
    unfold Lf.methodFlags at h
    simp only [Bool.and_eq_true, Bool.not_eq_true'] at h
    exact h.1.1.2
  have h4 : (bits .and .i64 f 26 != 0) = true := by
    rw [bne_iff_ne]
    exact fun e => h2 (mask_zeroO (a := 26) (b := 2) (by decide) e)
  rw [h4, Bool.and_true] at h3
  rcases bit1024 f with e | e
  · exact e
  · unfold Lf.hasAll at h3
    rw [e] at h3
    cases h3
theorem mask_or {f a b c : Int} (hc : BitVec.ofInt 64 c = BitVec.ofInt 64 a ||| BitVec.ofInt 64 b) (ha : bits .and .i64 f a = 0) (hb : bits .and .i64 f b = 0) : bits .and .i64 f c = 0 := by
  have key : ∀ s : Int, bits .and .i64 f s = 0 → BitVec.ofInt 64 f &&& BitVec.ofInt 64 s = 0#64 := fun s h => BitVec.eq_of_toNat_eq (wrap_zeroO (BitVec.isLt (BitVec.ofInt 64 f &&& BitVec.ofInt 64 s)) h)
  show IntKind.i64.wrap ((BitVec.ofInt 64 f &&& BitVec.ofInt 64 c).toNat : Int) = 0
  have h : BitVec.ofInt 64 f &&& BitVec.ofInt 64 c = 0#64 := by
    rw [hc]
    have h1 := key a ha
    have h2 := key b hb
    apply BitVec.eq_of_getLsbD_eq
    intro i hi
    have g1 := congrArg (·.getLsbD i) h1
    have g2 := congrArg (·.getLsbD i) h2
    simp only [BitVec.getLsbD_and, BitVec.getLsbD_zero] at g1 g2
    simp only [BitVec.getLsbD_and, BitVec.getLsbD_or, BitVec.getLsbD_zero, Bool.and_or_distrib_left]
    rw [g1, g2]
    rfl
  rw [h]
  decide

/-- In a world each method's flags are allowed, and each is found by its name. -/
def FlA (m : List EntM) : Prop := ∀ e ∈ m, ∀ k (h : k < e.c.meths.length), Lf.methodFlags e.c.meths[k].flags (Pr.isIfc e.c) (Lf.initB e.c.meths[k].name) = true ∧ Pr.findM e.c.meths e.c.meths[k].name e.c.meths[k].desc = k
theorem flA_start : FlA startM := by
  have h : (startM.all fun e => (List.range e.c.meths.length).all fun k => match e.c.meths[k]? with
      | some x => Lf.methodFlags x.flags (Pr.isIfc e.c) (Lf.initB x.name) && decide (Pr.findM e.c.meths x.name x.desc = k)
      | none => true) = true := by decide +kernel
  intro e he k hk
  have := List.all_eq_true.1 (List.all_eq_true.1 h e he) k (List.mem_range.2 hk)
  rw [List.getElem?_eq_getElem hk] at this
  simp only [Bool.and_eq_true, decide_eq_true_eq] at this
  exact this
theorem flA_step {m : List EntM} (h : FlA m) (c : ClsM) : FlA (defM m c) := by
  unfold defM
  split
  · next hd =>
    intro e he k hk
    rcases List.mem_append.1 he with he | he
    · exact h e he k hk
    · obtain rfl := List.mem_singleton.1 he
      have hk' : k < c.meths.length := hk
      have hkc : Pr.chk c = true := by
        unfold defE at hd
        cases hk : Pr.chk c with
        | true => rfl
        | false => rw [hk] at hd; simp at hd
      unfold Pr.chk at hkc
      simp only [Bool.and_eq_true] at hkc
      have hm := List.all_eq_true.1 hkc.2 k (List.mem_range.2 hk')
      unfold Pr.methOk at hm
      rw [List.getElem?_eq_getElem hk'] at hm
      simp only [Bool.and_eq_true, decide_eq_true_eq] at hm
      have hb := hm.1
      unfold Pr.methodB at hb
      simp only [Bool.and_eq_true] at hb
      exact ⟨hb.1.2, hm.2⟩
  · exact h
theorem flA_defs (l : List ClsM) : FlA (defs l) := by
  unfold defs
  have key : ∀ (l : List ClsM) (m : List EntM), FlA m → FlA (l.foldl defM m) := fun l => by
    induction l with
    | nil => intro m h; exact h
    | cons c r ih => intro m h; exact ih _ (flA_step h c)
  exact key l _ flA_start
theorem flA_flP {m : List EntM} (h : FlA m) : FlP m := fun e he x hx h2 => by
  obtain ⟨k, hk, rfl⟩ := List.getElem_of_mem hx
  exact priv_open (h e he k hk).1 h2

/-! ### What is found by a name -/

theorem flA_at {m : List EntM} (h : FlA m) {p : Int × Int} {x : MethM} (hx : methAt m p = some x) : ∃ i n, Lf.methodFlags x.flags i n = true ∧ i = isIfaceM m p.1 := by
  obtain ⟨i, j, hi, hj, rfl, rfl⟩ := methAt_some hx
  refine ⟨_, _, (h _ (List.getElem_mem hi) j hj).1, ?_⟩
  unfold isIfaceM
  rw [entAt_nat hi]
/-- A method is what its class finds by its name and descriptor. -/
theorem find_self {m : List EntM} (h : FlA m) {p : Int × Int} {x : MethM} (hx : methAt m p = some x) : findH m p.1 x.name x.desc = (p.2, 0) := by
  obtain ⟨i, j, hi, hj, rfl, rfl⟩ := methAt_some hx
  show findH m (i : Int) _ _ = _
  rw [findH_at hi]
  unfold findE
  have := (h _ (List.getElem_mem hi) j hj).2
  rw [this]
  rw [if_neg (by omega)]
theorem find_names {m : List EntM} {c : Nat} (hc : c < m.length) {n d : ByteArray} (h : (findH m (c : Int) n d).2 = 0) : ∃ (b : Nat) (hb : b < m[c].c.meths.length), (findH m (c : Int) n d).1 = b ∧ methAt m ((c : Int), (findH m (c : Int) n d).1) = some m[c].c.meths[b] ∧ m[c].c.meths[b].name = n ∧ m[c].c.meths[b].desc = d := by
  obtain ⟨b, hb, e, hm⟩ := findH_ok hc h
  refine ⟨b, hb, e, by rw [e]; exact methAt_at hc hb, (mEq_some hm).1, (mEq_some hm).2⟩

/-- The classes of a chain are no interfaces, but where it begins at one. -/
theorem ch_classes {m : List EntM} (hw : WFm m) (ho : OrdM m) {r : Nat} (hr : r < m.length) (hi : isIfaceM m (r : Int) = false) : ∀ c ∈ ch m r, isIfaceM m c = false := by
  refine ch_ind hw (P := fun r => ∀ h : r < m.length, isIfaceM m (r : Int) = false → ∀ c ∈ ch m r, isIfaceM m c = false) ?_ ?_ r hr hr hi
  · intro h hi c hc
    rw [ch_zero hw h] at hc
    obtain rfl := List.mem_singleton.1 hc
    exact hi
  · intro a p h h0 hpa hp ih _ hi c hc
    have hpl : p < m.length := by omega
    rw [ch_step hw h h0 hp hpl] at hc
    rcases List.mem_cons.1 hc with rfl | hc
    · exact hi
    · refine ih hpl ?_ c hc
      have := (ho.sup a h h0).1
      rw [hp, Int.toNat_natCast, clsAt_at hpl] at this
      unfold isIfaceM
      rw [entAt_nat hpl]
      exact this

/-! ### The answers -/

/-- A method that was found, unless it is abstract. -/
def fndM (m : List EntM) (q : Int × Int) : (Int × Int) × Int := match methAt m q with
  | some y => if (bits .and .i64 y.flags 1024 != 0) = true then ((0, 0), 24) else (q, 0)
  | none => (q, 0)
/-- A class's instance method of a name. -/
def decM (m : List EntM) (n d : ByteArray) (c : Int) : Option (Int × Int) :=
  if (findH m c n d).2 = 0 then (match methAt m (c, (findH m c n d).1) with
    | none => none
    | some y => if statF y.flags = true then none else some (c, (findH m c n d).1))
  else none
/-- The first of a chain. -/
def upE (m : List EntM) (n d : ByteArray) (r : Nat) : Option (Int × Int) := (ch m r).findSome? (decM m n d)
/-- What invokevirtual selects, of a class and a method that are there. -/
def virE (m : List EntM) (x : MethM) (p : Int × Int) (r : Nat) : (Int × Int) × Int :=
  if isIfaceM m (r : Int) = true then ((0, 0), 2) else if statF x.flags = true then ((0, 0), 23)
  else if (firstE m x p r).2 = 0 then fndM m (firstE m x p r).1 else oneM m r x.name x.desc
/-- What invokeinterface selects. -/
def itfE (m : List EntM) (x : MethM) (p : Int × Int) (r : Nat) : (Int × Int) × Int :=
  if isIfaceM m (r : Int) = true then ((0, 0), 2) else if (bits .and .i64 x.flags 10 != 0) = true then ((0, 0), 23)
  else match upE m x.name x.desc r with
    | none => oneM m r x.name x.desc
    | some q => (match methAt m q with
      | some y => if (bits .and .i64 y.flags 1 == 0) = true then ((0, 0), 22) else fndM m q
      | none => ((0, 0), 22))
def virM (m : List EntM) (r : Int) (p : Int × Int) : (Int × Int) × Int := match entAt m r, methAt m p with
  | some _, some x => virE m x p r.toNat
  | _, _ => ((0, 0), 3)
def itfM (m : List EntM) (r : Int) (p : Int × Int) : (Int × Int) × Int := match entAt m r, methAt m p with
  | some _, some x => itfE m x p r.toNat
  | _, _ => ((0, 0), 3)
end Go.Proofs.YtipinmbpdgjalaaGreatDoor.Hi
/- Selection: the laws of what is selected (plain). -/
set_option maxRecDepth 100000
set_option maxHeartbeats 1000000
set_option linter.unusedVariables false
set_option linter.unusedSimpArgs false
namespace Go.Proofs.YtipinmbpdgjalaaGreatDoor.Hi
open Go.RowKit Bs

theorem split_same {k : Int} : ∀ {P l1 t l2 : List Int}, P ++ k :: t = l1 ++ k :: l2 → k ∉ P → k ∉ l1 → P = l1
  | [], [], _, _, _, _, _ => rfl
  | [], a :: l, _, _, h, _, hn => by
    injection h with h1 h2
    exact absurd (h1 ▸ List.mem_cons_self ..) hn
  | a :: l, [], _, _, h, hn, _ => by
    injection h with h1 h2
    exact absurd (h1 ▸ List.mem_cons_self ..) hn
  | a :: l, b :: l', _, _, h, hn, hn' => by
    injection h with h1 h2
    rw [h1, split_same h2 (fun h => hn (List.mem_cons_of_mem _ h)) (fun h => hn' (List.mem_cons_of_mem _ h))]
theorem fnd_cases (m : List EntM) (q : Int × Int) : (fndM m q = ((0, 0), 24)) ∨ (fndM m q = (q, 0) ∧ ∀ y, methAt m q = some y → bits .and .i64 y.flags 1024 = 0) := by
  unfold fndM
  cases hy : methAt m q with
  | none => exact .inr ⟨rfl, fun y h => by cases h⟩
  | some y =>
    simp only
    by_cases h : bits .and .i64 y.flags 1024 = 0
    · right
      rw [if_neg (by simpa using h)]
      refine ⟨rfl, fun z hz => ?_⟩
      obtain rfl := Option.some.inj hz
      exact h
    · left
      rw [if_pos (by simpa using h)]
theorem one_cases (m : List EntM) (c : Nat) (n d : ByteArray) : oneM m c n d = ((0, 0), 24) ∨ oneM m c n d = ((0, 0), 23) ∨ ∃ q, q ∈ conM m c n d ∧ oneM m c n d = (q, 0) := by
  unfold oneM
  match h : conM m c n d with
  | [] => exact .inl rfl
  | [q] => exact .inr (.inr ⟨q, List.mem_singleton.2 rfl, rfl⟩)
  | q :: q' :: t => exact .inr (.inl rfl)
section
variable {m : List EntM} (hw : WFm m) (ho : OrdM m)
include hw ho
theorem con_spec {c : Nat} (hc : c < m.length) {n d : ByteArray} {q : Int × Int} (h : q ∈ conM m c n d) :
    ∃ y, methAt m q = some y ∧ y.name = n ∧ y.desc = d ∧ bits .and .i64 y.flags 10 = 0 ∧ bits .and .i64 y.flags 1024 = 0 ∧ isIfaceM m q.1 = true ∧ extM m c q.1 = true := by
  unfold conM at h
  obtain ⟨h1, h2⟩ := List.mem_filter.1 h
  have h3 : q ∈ candM m c n d := (List.mem_filter.1 h1).1
  obtain ⟨y, k, hy, hk, rfl, hcl, hme, hfl⟩ := cand_mem hw ho hc h3
  refine ⟨_, methAt_at hy hk, (mEq_some hme).1, (mEq_some hme).2, hfl, ?_, ?_, ?_⟩
  · have h4 : absM m ((y : Int), (k : Int)) = false := by simpa using h2
    unfold absM at h4
    rw [flM_at hy hk] at h4
    simpa using h4
  · obtain ⟨y', e, _, hi⟩ := clo_mem hw ho hc _ hcl
    obtain rfl : y = y' := by omega
    rw [clsAt_at hy] at hi
    unfold isIfaceM
    rw [entAt_nat hy]
    exact hi
  · exact (ext_iff hw ho hc hy).2 (.inr hcl)
theorem first_cases {x : MethM} {p : Int × Int} (hx : methAt m p = some x) {r : Nat} (hr : r < m.length) : firstE m x p r = ((0, 0), 6) ∨ ∃ q, q ∈ allK m x p m.length ∧ q.1 ∈ ch m r ∧ firstE m x p r = (q, 0) := by
  obtain ⟨i, j, hi, _, rfl, _⟩ := methAt_some hx
  unfold firstE
  cases hl : (firstL m x ((i : Int), (j : Int)) r).getLast? with
  | none => exact .inl rfl
  | some q =>
    have h := (mem_first hw ho x hi j hr).1 (List.mem_of_getLast? hl)
    exact .inr ⟨q, h.1, h.2, rfl⟩
/-- What overrides has the name, and is no static method. -/
theorem all_spec {x : MethM} {p q : Int × Int} (hx : methAt m p = some x) (hq : q ∈ allK m x p m.length) : ∃ y, methAt m q = some y ∧ y.name = x.name ∧ y.desc = x.desc ∧ bits .and .i64 y.flags 8 = 0 := by
  have _u := And.intro hw ho
  obtain ⟨c, hc, h1, h2⟩ := mem_all.1 hq
  rcases down_mem h1 with ⟨hs, rfl | ⟨_, c', _, h3, _⟩⟩
  · exact ⟨x, hx, rfl, rfl, by unfold statF at hs; simpa using hs⟩
  · obtain ⟨_, _, y, hy, e1, e2, hf⟩ := own_spec h3
    refine ⟨y, hy, e1, e2, ?_⟩
    unfold freeX statF at hf
    simp only [Bool.and_eq_true, Bool.not_eq_true'] at hf
    simpa using hf.1
theorem ch_ext {r : Nat} (hr : r < m.length) {c : Int} (hc : c ∈ ch m r) : extM m r c = true := by
  obtain ⟨k, rfl, _, hk, _⟩ := ch_mem hw hr c hc
  exact (ext_iff hw ho hr hk).2 (.inl hc)

/-! ### What Virtual selects -/

theorem vir_ok {x : MethM} {p q : Int × Int} (hx : methAt m p = some x) {r : Nat} (hr : r < m.length) (h : virE m x p r = (q, 0)) :
    ∃ y, methAt m q = some y ∧ y.name = x.name ∧ y.desc = x.desc ∧ bits .and .i64 y.flags 1032 = 0 ∧ extM m r q.1 = true ∧ (ovR m q p = (true, 0) ∨ isIfaceM m q.1 = true) := by
  unfold virE at h
  split at h
  · simp [Prod.ext_iff] at h
  split at h
  · simp [Prod.ext_iff] at h
  split at h
  · next h0 =>
    rcases first_cases hw ho hx hr with e | ⟨q', h1, h2, e⟩
    · rw [e] at h0; cases h0
    · rw [e] at h
      simp only at h
      rcases fnd_cases m q' with e2 | ⟨e2, h3⟩
      · rw [e2] at h; simp [Prod.ext_iff] at h
      · rw [e2] at h
        obtain rfl : q' = q := (Prod.ext_iff.1 h).1
        obtain ⟨y, hy, n1, n2, h8⟩ := all_spec hw ho hx h1
        exact ⟨y, hy, n1, n2, mask_or (a := 1024) (b := 8) (by decide) (h3 y hy) h8, ch_ext hw ho hr h2, .inl (all_over hx h1)⟩
  · rcases one_cases m r x.name x.desc with e | e | ⟨q', hq, e⟩
    · rw [e] at h; simp [Prod.ext_iff] at h
    · rw [e] at h; simp [Prod.ext_iff] at h
    · rw [e] at h
      obtain rfl : q' = q := (Prod.ext_iff.1 h).1
      obtain ⟨y, hy, n1, n2, h10, h1024, hi, he⟩ := con_spec hw ho hr hq
      exact ⟨y, hy, n1, n2, mask_or (a := 1024) (b := 8) (by decide) h1024 (mask_zeroO (a := 10) (by decide) h10), he, .inr hi⟩
theorem dec_spec {n d : ByteArray} {c : Nat} (hc : c < m.length) {q : Int × Int} (h : decM m n d (c : Int) = some q) : q = ((c : Int), (findH m c n d).1) ∧ (findH m c n d).2 = 0 ∧ ∃ y, methAt m q = some y ∧ y.name = n ∧ y.desc = d ∧ bits .and .i64 y.flags 8 = 0 := by
  have _u := And.intro hw ho
  unfold decM at h
  split at h
  · next h0 =>
    obtain ⟨b, hb, e, hm, n1, n2⟩ := find_names hc h0
    rw [hm] at h
    simp only at h
    split at h
    · cases h
    · next hs =>
      obtain rfl := Option.some.inj h
      exact ⟨rfl, h0, _, hm, n1, n2, by unfold statF at hs; simpa using hs⟩
  · cases h
theorem up_spec {n d : ByteArray} {r : Nat} (hr : r < m.length) {q : Int × Int} (h : upE m n d r = some q) : q.1 ∈ ch m r ∧ ∃ y, methAt m q = some y ∧ y.name = n ∧ y.desc = d ∧ bits .and .i64 y.flags 8 = 0 := by
  unfold upE at h
  obtain ⟨c, hc, hd⟩ := List.exists_of_findSome?_eq_some h
  obtain ⟨k, rfl, _, hk, _⟩ := ch_mem hw hr c hc
  obtain ⟨e, _, h2⟩ := dec_spec hw ho hk hd
  exact ⟨by rw [e]; exact hc, h2⟩
theorem itf_ok (hf : FlA m) {x : MethM} {p q : Int × Int} {r : Nat} (hr : r < m.length) (h : itfE m x p r = (q, 0)) :
    ∃ y, methAt m q = some y ∧ y.name = x.name ∧ y.desc = x.desc ∧ bits .and .i64 y.flags 1 ≠ 0 ∧ bits .and .i64 y.flags 1032 = 0 ∧ extM m r q.1 = true := by
  unfold itfE at h
  split at h
  · simp [Prod.ext_iff] at h
  split at h
  · simp [Prod.ext_iff] at h
  split at h
  · rcases one_cases m r x.name x.desc with e | e | ⟨q', hq, e⟩
    · rw [e] at h; simp [Prod.ext_iff] at h
    · rw [e] at h; simp [Prod.ext_iff] at h
    · rw [e] at h
      obtain rfl : q' = q := (Prod.ext_iff.1 h).1
      obtain ⟨y, hy, n1, n2, h10, h1024, hi, he⟩ := con_spec hw ho hr hq
      obtain ⟨i, n, hmf, rfl⟩ := flA_at hf hy
      rw [hi] at hmf
      exact ⟨y, hy, n1, n2, mf_pub hmf (mask_zeroO (a := 10) (by decide) h10), mask_or (a := 1024) (b := 8) (by decide) h1024 (mask_zeroO (a := 10) (by decide) h10), he⟩
  · next q' hu =>
    obtain ⟨h1, y, hy, n1, n2, h8⟩ := up_spec hw ho hr hu
    rw [hy] at h
    simp only at h
    split at h
    · simp [Prod.ext_iff] at h
    · next hp =>
      rcases fnd_cases m q' with e2 | ⟨e2, h3⟩
      · rw [e2] at h; simp [Prod.ext_iff] at h
      · rw [e2] at h
        obtain rfl : q' = q := (Prod.ext_iff.1 h).1
        exact ⟨y, hy, n1, n2, by simpa using hp, mask_or (a := 1024) (b := 8) (by decide) (h3 y hy) h8, ch_ext hw ho hr h1⟩

/-! ### What is private -/

theorem priv_itf {x : MethM} {p : Int × Int} {r : Nat} (hi : isIfaceM m (r : Int) = false) (h2 : bits .and .i64 x.flags 2 ≠ 0) : itfE m x p r = ((0, 0), 23) := by
  have _u := And.intro hw ho
  unfold itfE
  rw [if_neg (by simp [hi]), if_pos]
  rw [bne_iff_ne]
  exact fun e => h2 (mask_zeroO (a := 10) (by decide) e)
theorem priv_vir (hf : FlA m) {x : MethM} {p : Int × Int} (hx : methAt m p = some x) {r : Nat} (hr : r < m.length) (hi : isIfaceM m (r : Int) = false) (h2 : bits .and .i64 x.flags 2 ≠ 0) (h8 : bits .and .i64 x.flags 8 = 0) :
    (p.1 ∈ ch m r ∧ virE m x p r = (p, 0)) ∨ (p.1 ∉ ch m r ∧ ((virE m x p r).2 = 24 ∨ (virE m x p r).2 = 23 ∨ ((virE m x p r).2 = 0 ∧ isIfaceM m (virE m x p r).1.1 = true))) := by
  obtain ⟨i0, n0, hmf, _⟩ := flA_at hf hx
  have hs : statF x.flags = false := by unfold statF; rw [h8]; rfl
  have hal := all_priv hw hx hs (flP_at (flA_flP hf) hx h2)
  obtain ⟨i, j, hi', _, rfl, _⟩ := methAt_some hx
  have hv : virE m x ((i : Int), (j : Int)) r = if (firstE m x ((i : Int), (j : Int)) r).2 = 0 then fndM m (firstE m x ((i : Int), (j : Int)) r).1 else oneM m r x.name x.desc := by
    unfold virE
    rw [if_neg (by simp [hi]), if_neg (by simp [hs])]
  by_cases hc : (i : Int) ∈ ch m r
  · left
    refine ⟨hc, ?_⟩
    obtain ⟨k, hk, e⟩ := List.getElem_of_mem hc
    have hn := first_near hw ho x hi' (j : Int) hr hk (p := ((i : Int), (j : Int))) (by rw [hal]; exact List.mem_singleton.2 rfl) e.symm (fun k' h' hlt q hq => by
      rw [hal] at hq
      rw [List.mem_singleton.1 hq]
      intro e'
      exact List.pairwise_iff_getElem.1 (ch_nodup hw hr) k' k h' hk hlt (e'.symm.trans e.symm))
    rw [hv, hn, if_pos rfl]
    unfold fndM
    simp only
    rw [hx]
    simp only
    rw [if_neg]
    simp [mf_noabs hmf h2]
  · right
    refine ⟨hc, ?_⟩
    have hn := first_none hw ho x hi' (j : Int) hr (fun q hq => by
      rw [hal] at hq
      rw [List.mem_singleton.1 hq]
      exact hc)
    rw [hv, hn, if_neg (by decide)]
    rcases one_cases m r x.name x.desc with e | e | ⟨q', hq, e⟩
    · rw [e]; exact .inl rfl
    · rw [e]; exact .inr (.inl rfl)
    · rw [e]
      obtain ⟨_, _, _, _, _, _, h, _⟩ := con_spec hw ho hr hq
      exact .inr (.inr ⟨rfl, h⟩)

/-! ### Where all is public -/

/-- A public method of the name below overrides. -/
theorem all_pub (hf : FlA m) {x y : MethM} {p : Int × Int} (hx : methAt m p = some x) (h9 : bits .and .i64 x.flags 9 = 1) {c : Nat} (hc : c < m.length) (hf0 : (findH m c x.name x.desc).2 = 0) (hci : isIfaceM m c = false) (he : extM m c p.1 = true) (hy : methAt m ((c : Int), (findH m c x.name x.desc).1) = some y) (hy9 : bits .and .i64 y.flags 9 = 1) (hin : (y.name.toList == initN.toList) = false) :
    ((c : Int), (findH m c x.name x.desc).1) ∈ allK m x p m.length := by
  obtain ⟨i0, n0, hmf, _⟩ := flA_at hf hx
  obtain ⟨i1, n1, hmy, _⟩ := flA_at hf hy
  obtain ⟨x8, x1, x2, _⟩ := mf_nine hmf h9
  obtain ⟨y8, y1, y2, _⟩ := mf_nine hmy hy9
  have hs : statF x.flags = false := by unfold statF; rw [x8]; rfl
  by_cases hca : (c : Int) = p.1
  · have e := find_self hf hx
    rw [← hca] at e
    rw [e]
    have e2 : ((c : Int), p.2) = p := by rw [hca]
    rw [e2]
    exact all_self hw hx hs
  · obtain ⟨i, j, hi, _, rfl, _⟩ := methAt_some hx
    have hys : statF y.flags = false := by unfold statF; rw [y8]; rfl
    have hyp : privF y.flags = false := by unfold privF; rw [y2]; rfl
    obtain ⟨b, hb, eb, hm, e1, e2⟩ := find_names hc hf0
    have hye : y.name = x.name := by
      rw [hm] at hy
      rw [← Option.some.inj hy]
      exact e1
    have hfree : freeX y = true := by unfold freeX; rw [hys, hin]; rfl
    have how : ownM m x.name x.desc (c : Int) = some ((c : Int), (findH m c x.name x.desc).1) := by
      unfold ownM
      rw [if_pos ⟨hf0, hci⟩, hy]
      simp only
      rw [if_pos (by rw [hfree, hyp]; rfl)]
    have hfx : freeX x = true := by unfold freeX; rw [hs, ← hye, hin]; rfl
    have hop := open_one x1
    have hseen : seenM m (c : Int) ((i : Int), (j : Int)) = true := by
      unfold seenM flO
      rw [hx]
      simp only [hop]
      split <;> simp
    have hpl : plainM m ((c : Int), (findH m c x.name x.desc).1) ((i : Int), (j : Int)) x = true := by
      unfold plainM
      simp only at he hca ⊢
      rw [how, hfx, he, hseen]
      simp [hca]
    have := ov_mem (plain_ov hw ho hy hx hpl)
    exact mem_all.2 ⟨c, hc, by simpa using this, rfl⟩
/-- Whatever overrides stands in a class that has the name. -/
theorem all_find (hf : FlA m) {x : MethM} {p q : Int × Int} (hx : methAt m p = some x) (hq : q ∈ allK m x p m.length) : (findH m q.1 x.name x.desc).2 = 0 := by
  have _u := And.intro hw ho
  obtain ⟨c, hc, h1, h2⟩ := mem_all.1 hq
  rcases down_mem h1 with ⟨hs, rfl | ⟨_, c', _, h3, _⟩⟩
  · rw [find_self hf hx]
  · have h4 := (own_spec h3).1
    unfold ownM at h3
    split at h3
    · next h5 =>
      rw [h4]
      exact h5.1
    · cases h3
theorem agree (hf : FlA m) {x : MethM} {p : Int × Int} (hx : methAt m p = some x) {r : Nat} (hr : r < m.length) (h9 : bits .and .i64 x.flags 9 = 1) (he : extM m r p.1 = true)
    (hall : ∀ c : Nat, (c : Int) ∈ ch m r → (findH m c x.name x.desc).2 = 0 → ∃ y, methAt m ((c : Int), (findH m c x.name x.desc).1) = some y ∧ bits .and .i64 y.flags 9 = 1 ∧ (y.name.toList == initN.toList) = false ∧ (isIfaceM m p.1 = true → extM m c p.1 = true)) :
    virE m x p r = itfE m x p r := by
  obtain ⟨i0, n0, hmf, _⟩ := flA_at hf hx
  obtain ⟨x8, x1, x2, x10⟩ := mf_nine hmf h9
  have hs : statF x.flags = false := by unfold statF; rw [x8]; rfl
  cases hri : isIfaceM m (r : Int) with
  | true => unfold virE itfE; rw [if_pos hri, if_pos hri]
  | false =>
    have hv : virE m x p r = if (firstE m x p r).2 = 0 then fndM m (firstE m x p r).1 else oneM m r x.name x.desc := by
      unfold virE
      rw [if_neg (by simp [hri]), if_neg (by simp [hs])]
    have hi : itfE m x p r = match upE m x.name x.desc r with
        | none => oneM m r x.name x.desc
        | some q => (match methAt m q with
          | some y => if (bits .and .i64 y.flags 1 == 0) = true then ((0, 0), 22) else fndM m q
          | none => ((0, 0), 22)) := by
      unfold itfE
      rw [if_neg (by simp [hri]), if_neg (by simp [x10])]
      try rfl
    have hdec : ∀ c : Nat, (c : Int) ∈ ch m r → decM m x.name x.desc (c : Int) = none → ¬ (findH m c x.name x.desc).2 = 0 := fun c hc hd h0 => by
      obtain ⟨y, hy, y9, _⟩ := hall c hc h0
      obtain ⟨i1, n1, hmy, _⟩ := flA_at hf hy
      have y8 := (mf_nine hmy y9).1
      unfold decM at hd
      rw [if_pos h0, hy] at hd
      simp only at hd
      rw [if_neg (by unfold statF; rw [y8]; decide)] at hd
      cases hd
    rw [hv, hi]
    obtain ⟨pi, pj, hpi, _, rfl, _⟩ := methAt_some hx
    cases hu : upE m x.name x.desc r with
    | none =>
      have hn := first_none hw ho x hpi (pj : Int) hr (fun q hq hc => by
        obtain ⟨k, e, _, hk, _⟩ := ch_mem hw hr _ hc
        have h1 := all_find hw ho hf hx hq
        rw [e] at h1 hc
        have hd := List.findSome?_eq_none_iff.1 hu _ hc
        exact hdec k hc hd h1)
      rw [hn, if_neg (by decide)]
    | some q =>
      obtain ⟨l1, c, l2, hl, hd, hpre⟩ := List.findSome?_eq_some_iff.1 hu
      have hcm : c ∈ ch m r := by rw [hl]; simp
      obtain ⟨k, rfl, _, hk, _⟩ := ch_mem hw hr c hcm
      obtain ⟨rfl, h0, _⟩ := dec_spec hw ho hk hd
      obtain ⟨y, hy, y9, yin, hyi⟩ := hall k hcm h0
      have hpreD : ∀ c' : Nat, (c' : Int) ∈ l1 → ¬ (findH m c' x.name x.desc).2 = 0 := fun c' h' => hdec c' (by rw [hl]; exact List.mem_append_left _ h') (hpre _ h')
      have hext : extM m (k : Int) (pi : Int) = true := by
        cases hii : isIfaceM m (pi : Int) with
        | true => exact hyi hii
        | false =>
          have hpc : (pi : Int) ∈ ch m r := by
            rcases (ext_iff hw ho hr hpi).1 he with h | h
            · exact h
            · obtain ⟨k', e', _, hif⟩ := clo_mem hw ho hr _ h
              obtain rfl : pi = k' := by omega
              unfold isIfaceM at hii
              rw [entAt_nat hpi] at hii
              rw [clsAt_at hpi] at hif
              simp only at hii
              rw [hii] at hif
              cases hif
          have hpf : (findH m (pi : Int) x.name x.desc).2 = 0 := by
            have := find_self hf hx
            simp only at this
            rw [this]
          obtain ⟨P, hP, hPx⟩ := ch_split hw ho hr k hcm
          by_cases hin : (pi : Int) ∈ ch m k
          · exact ch_ext hw ho hk hin
          · exfalso
            rw [hP] at hpc
            rcases List.mem_append.1 hpc with h | h
            · -- before the first that has it
              obtain ⟨t, ht, _⟩ := ch_cons hw hk
              rw [hP, ht] at hl
              have hnd := ch_nodup hw hr
              rw [hP, ht] at hnd
              have hkl : (k : Int) ∉ P := fun hkP => by
                have := (List.nodup_append.1 hnd).2.2 _ hkP _ (List.mem_cons_self ..)
                exact this rfl
              have hPl : P = l1 := by
                have hnd2 := hnd
                rw [hl] at hnd2
                have hkl1 : (k : Int) ∉ l1 := fun hk1 => by
                  have := (List.nodup_append.1 hnd2).2.2 _ hk1 _ (List.mem_cons_self ..)
                  exact this rfl
                exact split_same hl hkl hkl1
              rw [hPl] at h
              exact hpreD pi h hpf
            · exact hin h
      have hmem := all_pub hw ho hf hx h9 hk h0 (ch_classes hw ho hr hri _ hcm) hext hy y9 yin
      have hkl : l1.length < (ch m r).length := by rw [hl]; simp
      have hck : (ch m r)[l1.length] = (k : Int) := by
        have : (ch m r)[l1.length]? = some (k : Int) := by rw [hl]; simp
        rw [List.getElem?_eq_getElem hkl] at this
        exact Option.some.inj this
      have hn := first_near hw ho x hpi (pj : Int) hr hkl hmem (by rw [hck]) (fun k' h' hlt q hq e' => by
        have h1 := all_find hw ho hf hx hq
        have hmem1 : (ch m r)[k'] ∈ l1 := by
          have : (ch m r)[k']? = l1[k']? := by rw [hl, List.getElem?_append_left hlt]
          rw [List.getElem?_eq_getElem h', List.getElem?_eq_getElem hlt] at this
          rw [Option.some.inj this]
          exact List.getElem_mem hlt
        obtain ⟨c', e2, _, hc', _⟩ := ch_mem hw hr _ (List.getElem_mem h')
        rw [e', e2] at h1
        rw [e2] at hmem1
        exact hpreD c' hmem1 h1)
      rw [hn, if_pos rfl]
      simp only
      rw [hy]
      obtain ⟨i1, n1, hmy, _⟩ := flA_at hf hy
      show _ = if (bits .and .i64 y.flags 1 == 0) = true then ((0, 0), 22) else fndM m _
      rw [if_neg (by simpa using (mf_nine hmy y9).2.1)]
end
end Go.Proofs.YtipinmbpdgjalaaGreatDoor.Hi
