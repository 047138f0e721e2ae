/- Types in a world. -/
import Derived.Test.YtiiebakblkpkeaaGreatDoorMK
import Derived.Test.YtiiebakblkpkeaaGreatDoorKA
import Derived.Test.YtiiebakblkpkeaaGreatDoorRc
import Derived.Test.YtiiebakblkpkeaaGreatDoorFd
import Derived.Deep.RegionHeld3
import Derived.Deep.DrawnRows
set_option maxRecDepth 100000
set_option maxHeartbeats 1000000
set_option linter.unusedVariables false
set_option linter.unusedSimpArgs false
namespace Go.Proofs.YtiiebakblkpkeaaGreatDoor.Hi
open Go.RowKit Bs

/-- A type: dimensions, name. -/
structure TyM where
  dims : Int
  name : ByteArray
abbrev TyM.val (t : TyM) : Value := .agg #[.int .i64 t.dims, .string t.name]
def tyOk (t : TyM) : Bool := decide (0 ≤ t.dims) && decide (t.dims ≤ 255) && (t.name.toList.isEmpty || Lf.validB t.name.data.toList)
def checkE (t : TyM) : Int := if tyOk t = true then 0 else 1
def isIntM (t : TyM) : Bool := (t.dims == 0) && t.name.toList.isEmpty
def loadedE (m : List EntM) (t : TyM) : Int := if tyOk t = true then (if (!t.name.toList.isEmpty && (nameIx m t.name).isNone) = true then 20 else 0) else 1
def holderM (m : List EntM) (t : TyM) : Int × Int := if loadedE m t = 0 then (if isIntM t = true then (0, 2) else if 0 < t.dims then (0, 0) else byNameM m t.name) else (0, loadedE m t)

theorem TCheck (t : TyM) (w : World) (hs : t.name.size ≤ maxLen) (he : Lf.Env w) :
    Calls Tryz.prog 85 #[t.val] w fun e w' => e = .returned (.int .i64 (checkE t)) ∧ Below w.heap.size w w' := by
  have hb : Below w.heap.size w (w.alloc (.cells #[.int .i64 t.dims, .string t.name] 33)) := (Below.refl _ _).alloc (Nat.le_refl _) _
  have HB := Lib.hid hb
  have HV := Lib.hid (fun wr (hr : Below w.heap.size w wr) => Lf.Valid t.name wr hs (he.below hr))
  have HC : Hid (checkE t = if (decide (0 ≤ t.dims) && decide (t.dims ≤ 255) && (t.name.toList.isEmpty || Lf.validB t.name.data.toList)) = true then 0 else 1) := Lib.hid rfl
  obtain ⟨R, hR⟩ : ∃ R, checkE t = R := ⟨_, rfl⟩
  rw [hR] at HC ⊢
  unfold TyM.val
  clear hb he hR
  generalize t.dims = dm at *
  generalize t.name = nm at *
  by_cases h1 : dm < 0
  · have e1 : decide (dm < 0) = true := decide_eq_true h1
    have G : Hid (R = 1) := Lib.hid (by rw [HC.out, decide_eq_false (by omega)]; rfl)
    clear HC HV
    go_enter Tryz.func85, Tryz.ntmps85
    go_wp2
    go_ret
    exact ⟨by rw [G.out]; rfl, HB.out⟩
  have e1 : decide (dm < 0) = false := decide_eq_false h1
  by_cases h2 : 255 < dm
  · have e2 : decide (255 < dm) = true := decide_eq_true h2
    have G : Hid (R = 1) := Lib.hid (by rw [HC.out, decide_eq_false (p := dm ≤ 255) (by omega), Bool.and_false]; rfl)
    clear HC HV
    go_enter Tryz.func85, Tryz.ntmps85
    go_wp2
    go_ret
    exact ⟨by rw [G.out]; rfl, HB.out⟩
  have e2 : decide (255 < dm) = false := decide_eq_false h2
  have HC2 : Hid (R = if (nm.toList.isEmpty || Lf.validB nm.data.toList) = true then 0 else 1) := Lib.hid (by rw [HC.out, decide_eq_true (by omega), decide_eq_true (by omega)]; rfl)
  clear HC
  cases hE : nm.toList.isEmpty
  · have hE' : (!nm.toList.isEmpty) = true := by rw [hE]; rfl
    rw [hE] at HC2
    generalize Lf.validB nm.data.toList = v at HV HC2
    go_enter Tryz.func85, Tryz.ntmps85
    go_wp2_with fail
    refine (HV.out _ HB.out).mono ?_
    rintro e w1 ⟨rfl, hb1⟩
    have HB1 : Hid (Below w.heap.size w w1) := Lib.hid (HB.out.trans (hb1.mono (by simp)))
    clear hb1 HV
    cases v
    · have G : Hid (R = 1) := Lib.hid (by rw [HC2.out]; rfl)
      go_wp2
      go_ret
      exact ⟨by rw [G.out]; rfl, HB1.out⟩
    · have G : Hid (R = 0) := Lib.hid (by rw [HC2.out]; rfl)
      go_wp2
      go_ret
      exact ⟨by rw [G.out]; rfl, HB1.out⟩
  · have hE' : (!nm.toList.isEmpty) = false := by rw [hE]; rfl
    have G : Hid (R = 0) := Lib.hid (by rw [HC2.out, hE]; rfl)
    clear HV HC2
    go_enter Tryz.func85, Tryz.ntmps85
    go_wp2
    go_ret
    exact ⟨by rw [G.out]; rfl, HB.out⟩

theorem byName_cases (m : List EntM) (s : ByteArray) : ((nameIx m s).isNone = false ∧ ∃ i : Nat, byNameM m s = ((i : Int), 0)) ∨ ((nameIx m s).isNone = true ∧ byNameM m s = (0, 6)) := by
  unfold byNameM
  cases nameIx m s with
  | none => exact .inr ⟨rfl, rfl⟩
  | some i => exact .inl ⟨rfl, i, rfl⟩

theorem Loaded {B bw : Nat} {w0 w : World} {m : List EntM} (h : Built B bw w0 w m) (t : TyM) (hs : t.name.size ≤ maxLen) (he : Lf.Env w) :
    Calls Tryz.prog 50 #[.pointer (some ⟨bw, 0, none⟩), t.val] w fun e w' => e = .returned (.int .i64 (loadedE m t)) ∧ Below w.heap.size w w' := by
  have hb : Below w.heap.size w (w.alloc (.cells #[.int .i64 t.dims, .string t.name] 33)) := (Below.refl _ _).alloc (Nat.le_refl _) _
  have HB := Lib.hid hb
  have HT := Lib.hid (TCheck t _ hs (he.below hb))
  have HN := Lib.hid (fun wr (hr : Below w.heap.size w wr) => ByName (h.next hr).hw t.name hs)
  have HL : Hid (loadedE m t = if tyOk t = true then (if (!t.name.toList.isEmpty && (nameIx m t.name).isNone) = true then 20 else 0) else 1) := Lib.hid rfl
  have HC : Hid (checkE t = if tyOk t = true then 0 else 1) := Lib.hid rfl
  have HQ := Lib.hid (byName_cases m t.name)
  have q1 : (w.alloc (.cells #[.int .i64 t.dims, .string t.name] 33)).cell? ⟨w.heap.size, 1, none⟩ = some (.string t.name) := World.cell?_alloc_new ..
  obtain ⟨R, hR⟩ : ∃ R, loadedE m t = R := ⟨_, rfl⟩
  rw [hR] at HL ⊢
  unfold TyM.val at *
  clear hb he hR h
  cases hk : tyOk t
  · rw [hk] at HC HL
    rw [HC.out] at HT
    have G : Hid (R = 1) := Lib.hid (by rw [HL.out]; rfl)
    clear HC HL HN HQ
    go_enter Tryz.func50, Tryz.ntmps50
    go_wp2_with fail
    refine HT.out.mono ?_
    rintro e w1 ⟨rfl, hb1⟩
    have HB1 : Hid (Below w.heap.size w w1) := Lib.hid (HB.out.trans (hb1.mono (by simp)))
    clear hb1 HT
    go_wp2
    go_ret
    exact ⟨by rw [G.out]; rfl, HB1.out⟩
  · rw [hk] at HC HL
    rw [HC.out] at HT
    have HL2 : Hid (R = if (!t.name.toList.isEmpty && (nameIx m t.name).isNone) = true then 20 else 0) := HL
    clear HC HL
    generalize t.dims = dm at *
    generalize t.name = nm at *
    go_enter Tryz.func50, Tryz.ntmps50
    go_wp2_with fail
    refine HT.out.mono ?_
    rintro e w1 ⟨rfl, hb1⟩
    have q1' := below_cell' hb1 q1
    have HB1 : Hid (Below w.heap.size w w1) := Lib.hid (HB.out.trans (hb1.mono (by simp)))
    have HX := Lib.hid (HN.out w1 HB1.out)
    clear hb1 HT HN q1
    rcases HQ.out with ⟨hn, i, hi⟩ | ⟨hn, hi⟩
    · rw [hi] at HX
      have G : Hid (R = 0) := Lib.hid (by rw [HL2.out, hn, Bool.and_false]; rfl)
      clear HL2 HQ
      cases hE : nm.toList.isEmpty
      · have hE' : (!nm.toList.isEmpty) = true := by rw [hE]; rfl
        go_wp2_with fail
        refine HX.out.mono ?_
        rintro e w2 ⟨rfl, rfl⟩
        go_wp2
        go_ret
        exact ⟨by rw [G.out]; rfl, HB1.out⟩
      · have hE' : (!nm.toList.isEmpty) = false := by rw [hE]; rfl
        go_wp2_with fail
        refine HX.out.mono ?_
        rintro e w2 ⟨rfl, rfl⟩
        go_wp2
        go_ret
        exact ⟨by rw [G.out]; rfl, HB1.out⟩
    · rw [hi] at HX
      clear HQ
      cases hE : nm.toList.isEmpty
      · have hE' : (!nm.toList.isEmpty) = true := by rw [hE]; rfl
        have G : Hid (R = 20) := Lib.hid (by rw [HL2.out, hn, hE]; rfl)
        go_wp2_with fail
        refine HX.out.mono ?_
        rintro e w2 ⟨rfl, rfl⟩
        go_wp2
        go_ret
        exact ⟨by rw [G.out]; rfl, HB1.out⟩
      · have hE' : (!nm.toList.isEmpty) = false := by rw [hE]; rfl
        have G : Hid (R = 0) := Lib.hid (by rw [HL2.out, hE]; rfl)
        go_wp2_with fail
        refine HX.out.mono ?_
        rintro e w2 ⟨rfl, rfl⟩
        go_wp2
        go_ret
        exact ⟨by rw [G.out]; rfl, HB1.out⟩

theorem IsInt (t : TyM) (w : World) :
    Calls Tryz.prog 51 #[t.val] w fun e w' => e = .returned (.bool (isIntM t)) ∧ Below w.heap.size w w' := by
  have hb : Below w.heap.size w (w.alloc (.cells #[.int .i64 t.dims, .string t.name] 33)) := (Below.refl _ _).alloc (Nat.le_refl _) _
  have HB := Lib.hid hb
  have HI : Hid (isIntM t = ((t.dims == 0) && t.name.toList.isEmpty)) := Lib.hid rfl
  obtain ⟨R, hR⟩ : ∃ R, isIntM t = R := ⟨_, rfl⟩
  rw [hR] at HI ⊢
  unfold TyM.val
  clear hb hR
  generalize t.dims = dm at *
  generalize t.name = nm at *
  by_cases h1 : dm = 0
  · subst h1
    by_cases h2 : nm.toList = []
    · have G : Hid (R = true) := Lib.hid (by rw [HI.out, h2]; rfl)
      go_enter Tryz.func51, Tryz.ntmps51
      go_wp2
      go_ret
      exact ⟨by rw [G.out]; rfl, HB.out⟩
    · have G : Hid (R = false) := Lib.hid (by rw [HI.out]; simp [h2])
      go_enter Tryz.func51, Tryz.ntmps51
      go_wp2
      go_ret
      exact ⟨by rw [G.out]; rfl, HB.out⟩
  · have G : Hid (R = false) := Lib.hid (by rw [HI.out]; simp [h1])
    go_enter Tryz.func51, Tryz.ntmps51
    go_wp2
    go_ret
    exact ⟨by rw [G.out]; rfl, HB.out⟩

/-- A class type's holder. -/
theorem Holder_class {B bw : Nat} {w0 w : World} {m : List EntM} (h : Built B bw w0 w m) (t : TyM) (hs : t.name.size ≤ maxLen) (he : Lf.Env w) (hl : loadedE m t = 0) (hd : t.dims = 0) (hE : t.name.toList.isEmpty = false) :
    Calls Tryz.prog 23 #[.pointer (some ⟨bw, 0, none⟩), t.val] w fun e w' => e = .returned (.tuple #[.int .i64 (byNameM m t.name).1, .int .i64 (byNameM m t.name).2]) ∧ Below w.heap.size w w' := by
  have hb : Below w.heap.size w (w.alloc (.cells #[.int .i64 t.dims, .string t.name] 33)) := (Below.refl _ _).alloc (Nat.le_refl _) _
  have HB := Lib.hid hb
  have HT := Lib.hid (Loaded (h.next hb) t hs (he.below hb))
  rw [hl] at HT
  have HI := Lib.hid (fun wr => IsInt t wr)
  have hi : isIntM t = false := by unfold isIntM; rw [hE, Bool.and_false]
  rw [hi] at HI
  have HN := Lib.hid (fun wr (hr : Below w.heap.size w wr) => ByName (h.next hr).hw t.name hs)
  have q0 : (w.alloc (.cells #[.int .i64 t.dims, .string t.name] 33)).cell? ⟨w.heap.size, 0, none⟩ = some (.int .i64 t.dims) := World.cell?_alloc_new ..
  have q1 : (w.alloc (.cells #[.int .i64 t.dims, .string t.name] 33)).cell? ⟨w.heap.size, 1, none⟩ = some (.string t.name) := World.cell?_alloc_new ..
  unfold TyM.val at *
  rw [hd] at *
  clear hb he h hl hi hd hE
  generalize t.name = nm at *
  go_enter Tryz.func23, Tryz.ntmps23
  go_wp2_with fail
  refine HT.out.mono ?_
  rintro e w1 ⟨rfl, hb1⟩
  have p0 := below_cell' hb1 q0
  have p1 := below_cell' hb1 q1
  have HB1 : Hid (Below w.heap.size w w1) := Lib.hid (HB.out.trans (hb1.mono (by simp)))
  clear hb1 HT q0 q1
  go_wp2_with fail
  refine (HI.out _).mono ?_
  rintro e w2 ⟨rfl, hb2⟩
  have q0 := below_cell' hb2 p0
  have q1 := below_cell' hb2 p1
  have HB2 : Hid (Below w.heap.size w w2) := Lib.hid (HB1.out.trans (hb2.mono HB1.out.size))
  have HX := Lib.hid (HN.out w2 HB2.out)
  clear hb2 HI p0 p1 HN
  go_wp2_with fail
  refine HX.out.mono ?_
  rintro e w3 ⟨rfl, rfl⟩
  go_wp2
  go_ret2
  exact ⟨rfl, HB2.out⟩
end Go.Proofs.YtiiebakblkpkeaaGreatDoor.Hi
/- Looking a method up: what the answer is (plain). -/
set_option maxRecDepth 100000
set_option maxHeartbeats 1000000
set_option linter.unusedVariables false
set_option linter.unusedSimpArgs false
namespace Go.Proofs.YtiiebakblkpkeaaGreatDoor.Hi
open Go.RowKit Bs

/-- The first candidate. -/
def someM (m : List EntM) (c : Nat) (n d : ByteArray) : (Int × Int) × Int := match candM m c n d with
  | [] => ((0, 0), 6)
  | p :: _ => (p, 0)
/-- The first class of a chain that has the method. -/
def firstM (m : List EntM) (n d : ByteArray) : List Int → (Int × Int) × Int
  | [] => ((0, 0), 6)
  | k :: r => if (findH m k n d).2 = 0 then ((k, (findH m k n d).1), 0) else firstM m n d r
def chainR (m : List EntM) (c : Nat) (n d : ByteArray) : (Int × Int) × Int := firstM m n d (ch m c)
def ownR (m : List EntM) (c : Nat) (n d : ByteArray) : (Int × Int) × Int := (((c : Int), (findH m c n d).1), (findH m c n d).2)
/-- The first road that leads somewhere. -/
def firstR : List ((Int × Int) × Int) → (Int × Int) × Int
  | [] => ((0, 0), 21)
  | x :: r => if x.2 = 0 then (x.1, 0) else firstR r
def lookupM (m : List EntM) (c : Nat) (n d : ByteArray) : (Int × Int) × Int := firstR [chainR m c n d, oneM m c n d, someM m c n d]

theorem firstM_none {m : List EntM} {n d : ByteArray} : ∀ {l : List Int}, (∀ k ∈ l, (findH m k n d).2 ≠ 0) → firstM m n d l = ((0, 0), 6)
  | [], _ => rfl
  | k :: r, h => by
    unfold firstM
    rw [if_neg (h k (List.mem_cons_self ..))]
    exact firstM_none fun x hx => h x (List.mem_cons_of_mem _ hx)
theorem firstM_at {m : List EntM} {n d : ByteArray} : ∀ {l : List Int} {i : Nat} (hi : i < l.length), (∀ j (hj : j < l.length), j < i → (findH m l[j] n d).2 ≠ 0) → (findH m l[i] n d).2 = 0 → firstM m n d l = ((l[i], (findH m l[i] n d).1), 0)
  | [], _, hi, _, _ => by simp at hi
  | k :: r, 0, hi, _, h => by
    unfold firstM
    rw [if_pos (show (findH m k n d).2 = 0 from h)]
    rfl
  | k :: r, i + 1, hi, h1, h => by
    unfold firstM
    rw [if_neg (show ¬ (findH m k n d).2 = 0 from h1 0 (by simp) (by omega))]
    have hi' : i < r.length := by simpa using hi
    have := firstM_at (l := r) hi' (fun j hj hji => h1 (j + 1) (by simpa using hj) (by omega)) h
    exact this
theorem oneM_ok {m : List EntM} {c : Nat} {n d : ByteArray} (h : (oneM m c n d).2 = 0) : (oneM m c n d).1 ∈ candM m c n d := by
  unfold oneM at *
  have hs : ∀ p ∈ conM m c n d, p ∈ candM m c n d := fun p hp => by
    unfold conM maxM maxL at hp
    exact (List.mem_filter.1 (List.mem_filter.1 hp).1).1
  generalize conM m c n d = L at h hs ⊢
  match L, h, hs with
  | [], h, _ => cases h
  | [p], _, hs => exact hs p (List.mem_singleton.2 rfl)
  | _ :: _ :: _, h, _ => cases h
theorem someM_ok {m : List EntM} {c : Nat} {n d : ByteArray} (h : (someM m c n d).2 = 0) : (someM m c n d).1 ∈ candM m c n d := by
  unfold someM at *
  cases hL : candM m c n d with
  | nil => rw [hL] at h; cases h
  | cons p r => exact List.mem_cons_self ..
theorem cand_ifc {m : List EntM} (hw : WFm m) (ho : OrdM m) {c : Nat} (hc : c < m.length) {n d : ByteArray} {p : Int × Int} (hp : p ∈ candM m c n d) : isIfaceM m p.1 = true := by
  obtain ⟨y, k, hy, hk, rfl, hyc, _⟩ := cand_mem hw ho hc hp
  obtain ⟨z, e, _, h⟩ := clo_mem hw ho hc _ hyc
  obtain rfl : y = z := by omega
  unfold isIfaceM
  rw [entAt_nat hy]
  rw [clsAt_at hy] at h
  exact h
/-- Where the chain has no such method. -/
theorem lookup_none {m : List EntM} {c : Nat} {n d : ByteArray} (h : ∀ k ∈ ch m c, (findH m k n d).2 ≠ 0) : lookupM m c n d = firstR [oneM m c n d, someM m c n d] := by
  unfold lookupM chainR
  rw [firstM_none h]
  rfl
theorem lookup_none_ok {m : List EntM} (hw : WFm m) (ho : OrdM m) {c : Nat} (hc : c < m.length) {n d : ByteArray} (h : ∀ k ∈ ch m c, (findH m k n d).2 ≠ 0) :
    (lookupM m c n d).2 = 21 ∨ ((lookupM m c n d).2 = 0 ∧ isIfaceM m (lookupM m c n d).1.1 = true) := by
  rw [lookup_none h]
  unfold firstR
  by_cases h1 : (oneM m c n d).2 = 0
  · rw [if_pos h1]
    exact .inr ⟨rfl, cand_ifc hw ho hc (oneM_ok h1)⟩
  · rw [if_neg h1]
    unfold firstR
    by_cases h2 : (someM m c n d).2 = 0
    · rw [if_pos h2]
      exact .inr ⟨rfl, cand_ifc hw ho hc (someM_ok h2)⟩
    · rw [if_neg h2]
      exact .inl rfl
/-- A class that names no interface has what its superclass has. -/
theorem lookup_super {m : List EntM} (hw : WFm m) (ho : OrdM m) {c : Nat} (hc : c < m.length) (h0 : 0 < c) {n d : ByteArray} (h : ∀ k ∈ ch m c, (findH m k n d).2 ≠ 0) (hi : m[c].c.ifaces = []) :
    ∃ p : Nat, p < m.length ∧ superM m c = ((p : Int), 0) ∧ lookupM m p n d = lookupM m c n d := by
  obtain ⟨p, hp, e, _, hcand⟩ := cand_pre hw ho hc h0 n d
  refine ⟨p, hp, e, ?_⟩
  have hin : (p : Int) ∈ ch m c := by
    obtain ⟨q, hq1, hq2, hq, _⟩ := par hw hc h0
    have : superM m c = ((q : Int), 0) := by
      unfold superM
      rw [entAt_nat hc]
      simp only
      rw [if_neg (by rw [hq2]; omega), hq2]
    rw [e] at this
    injection this with e1 _
    obtain rfl : p = q := by omega
    rw [ch_step hw hc h0 hq2 hp]
    refine List.mem_cons_of_mem _ (List.mem_of_getElem? (ch_head hw hp))
  rw [lookup_none h, lookup_none (fun k hk => h k (ch_sub hw hc p hin k hk))]
  have hcc := hcand hi
  unfold oneM conM maxM someM
  rw [hcc]
theorem super_ok {m : List EntM} {c : Nat} (hc : c < m.length) (hw : WFm m) : (superM m c).2 = 0 → 0 < c := fun h => by
  rcases Nat.eq_zero_or_pos c with rfl | h0
  · unfold superM at h
    rw [entAt_nat hc] at h
    simp only at h
    rw [if_pos (by have := (hw.above 0 hc).2.2; omega)] at h
    cases h
  · exact h0
end Go.Proofs.YtiiebakblkpkeaaGreatDoor.Hi
/- Looking a method up: the roads. -/
set_option maxRecDepth 100000
set_option maxHeartbeats 1000000
set_option linter.unusedVariables false
set_option linter.unusedSimpArgs false
namespace Go.Proofs.YtiiebakblkpkeaaGreatDoor.Hi
open Go.RowKit Bs

theorem OwnR {B bw : Nat} {w0 w : World} {m : List EntM} (h : Built B bw w0 w m) {c : Nat} (hc : c < m.length) (n d : ByteArray) :
    Calls Tryz.prog 109 #[.pointer (some ⟨bw, 0, none⟩), .int .i64 c, .string n, .string d] w fun r w' => r = .returned (.tuple #[idV (ownR m c n d).1, .int .i64 (ownR m c n d).2]) ∧ Below w.heap.size w w' := by
  have HS := Lib.hid (IdAt.start w)
  have HF := Lib.hid ((h.next HS.out.bel).find hc n d)
  unfold ownR idV
  generalize findH m c n d = f at HF
  clear h
  go_enter Tryz.func109, Tryz.ntmps109
  go_wp2_with fail
  refine HF.out.mono ?_
  rintro _ w1 ⟨rfl, hb⟩
  have HB := Lib.hid (HS.out.next hb)
  have s0 := HB.out.s0
  have s1 := HB.out.s1
  have t0 := HB.out.t 0
  have t1 := HB.out.t 1
  clear hb HF HS
  go_wp2
  refine bodyPost_ret (results_cells_tmp rfl _ _ w.heap.size [.int .i64 c, .int .i64 f.1] _ rfl (HB.out.two _ _) Tryz.underlying24 rfl id_info2) rfl ⟨rfl, HB.out.end _ _⟩

theorem firstM_drop {m : List EntM} {n d : ByteArray} {L : List Int} {k : Nat} (hk : k < L.length) : firstM m n d (L.drop k) = if (findH m L[k] n d).2 = 0 then ((L[k], (findH m L[k] n d).1), 0) else firstM m n d (L.drop (k + 1)) := by
  rw [List.drop_eq_getElem_cons hk]
  rfl

theorem ChainR {B bw : Nat} {w0 w : World} {m : List EntM} (h : Built B bw w0 w m) {c : Nat} (hc : c < m.length) (n d : ByteArray) :
    Calls Tryz.prog 111 #[.pointer (some ⟨bw, 0, none⟩), .int .i64 c, .string n, .string d] w fun r w' => r = .returned (.tuple #[idV (chainR m c n d).1, .int .i64 (chainR m c n d).2]) ∧ Below w.heap.size w w' := by
  have HS := Lib.hid (IdAt.start w)
  have HC := Lib.hid ((h.next HS.out.bel).chain c hc)
  have HF := Lib.hid (fun (wr : World) (hr : Below w.heap.size w wr) (k : Nat) (hk : k < m.length) => (h.next hr).find hk n d)
  have HM : Hid (∀ x ∈ ch m c, ∃ k : Nat, x = k ∧ k < m.length) := Lib.hid fun x hx => by
    obtain ⟨k, e, _, hk, _⟩ := ch_mem h.wf hc x hx
    exact ⟨k, e, hk⟩
  have HL : Hid ((ch m c).length ≤ 300) := Lib.hid (by
    have h1 := ch_len h.wf hc
    have h2 := (h.wf.depth c hc).2.1
    have h3 := h.wf.len
    omega)
  unfold chainR idV
  generalize ch m c = L at *
  clear h
  have hl := HL.out
  obtain ⟨R, hR⟩ : ∃ R, firstM m n d L = R := ⟨_, rfl⟩
  have HR := Lib.hid hR
  rw [hR]
  clear hR
  go_enter Tryz.func111, Tryz.ntmps111
  go_wp2_with fail
  refine HC.out.mono ?_
  rintro _ w1 ⟨ad, cc, rfl, hs, hb⟩
  have HB := Lib.hid (HS.out.next hb)
  have HIS := Lib.hid hs
  clear hb hs HC HS
  go_wp2_with fail
  go_loopg [24] L.length (fun gk u wr => ∃ k : Nat, Hid (k + gk = L.length ∧ firstM m n d (L.drop k) = R) ∧ u = .int .i64 k ∧ Hid (IdAt w wr ∧ Below w1.heap.size w1 wr))
  case atStart => exact ⟨0, Lib.hid ⟨Nat.zero_add _, by rw [List.drop_zero]; exact HR.out⟩, by go_num, Lib.hid ⟨HB.out, Below.refl _ _⟩⟩
  case round =>
    clear HB HR
    obtain ⟨k, hk, rfl, HB⟩ := hrel
    have s0 := HB.out.1.s0
    have s1 := HB.out.1.s1
    have t0 := HB.out.1.t 0
    have t1 := HB.out.1.t 1
    by_cases hlt : k < L.length
    · have hlt' : (k : Int) < (L.length : Int) := by omega
      have hk0 : (0 : Int) ≤ (k : Int) := by omega
      obtain ⟨b, o, rfl, hel⟩ := HIS.out.elem (by omega)
      have g0 := below_cell' HB.out.2 (hel k _ (List.getElem?_eq_getElem hlt))
      obtain ⟨y, hy, hym⟩ := HM.out L[k] (List.getElem_mem hlt)
      have HD : Hid (firstM m n d (L.drop k) = if (findH m L[k] n d).2 = 0 then ((L[k], (findH m L[k] n d).1), 0) else firstM m n d (L.drop (k + 1))) := Lib.hid (firstM_drop hlt)
      rw [hy] at g0 HD
      have HX := Lib.hid (HF.out wr HB.out.1.bel y hym)
      clear hel hy hym
      generalize findH m y n d = f at HX HD
      obtain ⟨f1, f2⟩ := f
      go_wp2_with fail
      refine HX.out.mono ?_
      rintro _ w2 ⟨rfl, hb⟩
      have HB2 : Hid (IdAt w w2 ∧ Below w1.heap.size w1 w2) := Lib.hid ⟨HB.out.1.next hb, HB.out.2.trans (hb.mono HB.out.2.size)⟩
      clear hb HX HB s0 s1 t0 t1 g0
      have s0 := HB2.out.1.s0
      have s1 := HB2.out.1.s1
      have t0 := HB2.out.1.t 0
      have t1 := HB2.out.1.t 1
      by_cases hf : f2 = 0
      · subst hf
        have HG : Hid (R = (((y : Int), f1), 0)) := Lib.hid (by rw [← hk.out.2, HD.out]; rfl)
        clear HD hk
        go_wp2
        refine bodyPost_ret (results_cells_tmp rfl _ _ w.heap.size [.int .i64 y, .int .i64 f1] _ rfl (HB2.out.1.two _ _) Tryz.underlying24 rfl id_info2) rfl ⟨by rw [HG.out]; rfl, HB2.out.1.end _ _⟩
      · have HG : Hid (firstM m n d (L.drop (k + 1)) = R) := Lib.hid (by rw [← hk.out.2, HD.out, if_neg hf])
        have hf' : (f2 == 0) = false := by simpa using hf
        clear HD hf
        go_wp2
        go_roundg (L.length - (k + 1))
        case measure => have := hk.out.1; omega
        case rel => exact ⟨k + 1, Lib.hid ⟨by have := hk.out.1; omega, HG.out⟩, by go_num, HB2⟩
    · have HG : Hid (R = ((0, 0), 6)) := Lib.hid (by
        rw [← hk.out.2, List.drop_eq_nil_of_le (by omega)]
        rfl)
      clear hk
      go_wp2
      refine bodyPost_ret (results_cells_tmp rfl _ _ w.heap.size [.int .i64 0, .int .i64 0] _ rfl (HB.out.1.two _ _) Tryz.underlying24 rfl id_info2) rfl ⟨by rw [HG.out]; rfl, HB.out.1.end _ _⟩

theorem SomeR {B bw : Nat} {w0 w : World} {m : List EntM} (h : Built B bw w0 w m) {c : Nat} (hc : c < m.length) (n d : ByteArray) :
    Calls Tryz.prog 123 #[.pointer (some ⟨bw, 0, none⟩), .int .i64 c, .string n, .string d] w fun r w' => r = .returned (.tuple #[idV (someM m c n d).1, .int .i64 (someM m c n d).2]) ∧ Below w.heap.size w w' := by
  cases hL : candM m c n d with
  | nil =>
    refine (Some_none h hc n d hL).mono ?_
    rintro r w' ⟨rfl, hb⟩
    exact ⟨by unfold someM; rw [hL]; rfl, hb⟩
  | cons p r =>
    have HS := Lib.hid (IdAt.start w)
    have HC := Lib.hid (Candidates (h.next HS.out.bel) hc n d)
    have HQ : Hid (someM m c n d = (p, 0)) := Lib.hid (by unfold someM; rw [hL])
    have hln := cand_len h.wf hc n d
    rw [hL] at HC hln
    rw [HQ.out]
    unfold idV
    clear h hL HQ
    go_enter Tryz.func123, Tryz.ntmps123
    go_wp2_with fail
    refine HC.out.mono ?_
    rintro _ w1 ⟨ad, k, rfl, hrow, hb⟩
    have HB := Lib.hid (HS.out.next hb)
    have s0 := HB.out.s0
    have s1 := HB.out.s1
    have t0 := HB.out.t 0
    have t1 := HB.out.t 1
    obtain ⟨b, o, rfl, c0, c1⟩ := IdSl.elem hrow (k := 0) (by simp)
    have e1 : (((p :: r).length : Int) == 0) = false := by simp <;> omega
    have e2 : (0 : Int) < ((p :: r).length : Int) := by simp <;> omega
    simp only [Nat.zero_mul, Nat.add_zero, List.getElem_cons_zero] at c0 c1
    clear hb hrow HC HS
    generalize (p :: r).length = ln at *
    go_wp2
    refine bodyPost_ret (results_cells_tmp rfl _ _ w.heap.size [.int .i64 p.1, .int .i64 p.2] _ rfl (HB.out.two _ _) Tryz.underlying24 rfl id_info2) rfl ⟨rfl, HB.out.end _ _⟩
end Go.Proofs.YtiiebakblkpkeaaGreatDoor.Hi
/- Looking a method up along roads. -/
set_option maxRecDepth 100000
set_option maxHeartbeats 2000000
set_option linter.unusedVariables false
set_option linter.unusedSimpArgs false
namespace Go.Proofs.YtiiebakblkpkeaaGreatDoor.Hi
open Go.RowKit Bs

/-- What going along n roads comes to. -/
def Along (Q : Nat → Int × Int → Int → Prop) (n : Nat) (p : Int × Int) (e : Int) : Prop :=
  (e = 0 ∧ ∃ k, k < n ∧ Q k p 0 ∧ ∀ j, j < k → ∃ p' e', Q j p' e' ∧ e' ≠ 0) ∨ (p = (0, 0) ∧ e = 21 ∧ ∀ j, j < n → ∃ p' e', Q j p' e' ∧ e' ≠ 0)
def IsRoad (f : Nat) : Prop := f = 111 ∨ f = 109 ∨ f = 110 ∨ f = 31 ∨ f = 123

theorem Look_in {bw : Nat} {w : World} {c : Int} {ifc : Bool} {g k : Nat} (n d : ByteArray) (hk : k ≤ 4) (fs : List Nat) (hfl : fs.length = k) (hcell : ∀ j (hj : j < fs.length), w.cell? ⟨g, j, none⟩ = some (roadV fs[j])) (HC0 : ∀ wr, Below w.heap.size w wr → Calls Tryz.prog 47 #[.pointer (some ⟨bw, 0, none⟩), .int .i64 c] wr fun r w' => ∃ (v0 v1 : ByteArray) (ia ma : Option Addr) (il ic ml mc : Nat) (f l : Int), r = .returned (.tuple #[.agg #[.string v0, .string v1, .slice ia il ic, .int .i64 f, .int .i64 l, .slice ma ml mc], .int .i64 0]) ∧ Below wr.heap.size wr w')
    (HI0 : ∀ wr, Below w.heap.size w wr → Calls Tryz.prog 17 #[.pointer (some ⟨bw, 0, none⟩), .int .i64 c] wr fun r w' => r = .returned (.bool ifc) ∧ Below wr.heap.size wr w')
    (Q : Nat → Int × Int → Int → Prop) (hf : ∀ j (hj : j < (fs ++ [31, 123]).length), IsRoad (fs ++ [31, 123])[j])
    (HR0 : ∀ wr, Below w.heap.size w wr → ∀ j (hj : j < (fs ++ [31, 123]).length), Calls Tryz.prog (fs ++ [31, 123])[j] #[.pointer (some ⟨bw, 0, none⟩), .int .i64 c, .string n, .string d] wr fun r w' => ∃ p e, r = .returned (.tuple #[idV p, .int .i64 e]) ∧ Q j p e ∧ Below wr.heap.size wr w') :
    Calls Tryz.prog 108 #[.pointer (some ⟨bw, 0, none⟩), .int .i64 c, .string n, .string d, .bool ifc, .slice (some ⟨g, 0, none⟩) k k] w fun r w' => ∃ p e, r = .returned (.tuple #[idV p, .int .i64 e]) ∧ Along Q (k + 2) p e ∧ Below w.heap.size w w' := by
  have HS := Lib.hid (IdAt.start w)
  have HC := Lib.hid (HC0 _ HS.out.bel)
  have HI := Lib.hid HI0
  have HR := Lib.hid HR0
  have HRO := Lib.hid hf
  have hlen : (fs ++ [31, 123]).length = k + 2 := by simp [hfl]
  have HLN := Lib.hid hlen
  clear HC0 HI0 HR0 hf hlen
  cases ifc
  all_goals
    go_enter Tryz.func108, Tryz.ntmps108
    go_wp2_with fail
    refine HC.out.mono ?_
    rintro _ w1 ⟨v0, v1, ia, ma, il, ic, ml, mc, f, l, rfl, hb⟩
    have HB1 := Lib.hid ((HS.out.next hb).next ((Below.refl w1.heap.size w1).alloc (Nat.le_refl _) (.cells #[.string v0, .string v1, .slice ia il ic, .int .i64 f, .int .i64 l, .slice ma ml mc] 62)))
    clear hb HC HS
    go_wp2_with fail
    refine (HI.out _ HB1.out.bel).mono ?_
    rintro _ w2 ⟨rfl, hb⟩
    have HB2 := Lib.hid (HB1.out.next hb)
    clear hb HI HB1
    have hb2 := (Below.refl w2.heap.size w2).alloc (Nat.le_refl _) (.cells #[roadV 31, roadV 123] 179)
    obtain ⟨cap, w3, hr, hb3, hc3⟩ := run_roads (w := w2.alloc (.cells #[roadV 31, roadV 123] 179)) (g := g) (k := k) fs hfl hk (fun j hj => below_cell' hb2 (below_cell' HB2.out.bel (hcell j hj))) (q := w2.heap.size) 31 123 (World.cell?_alloc_new ..) (World.cell?_alloc_new ..) 178
    have HB3 := Lib.hid ((HB2.out.next hb2).next hb3)
    obtain ⟨rb, hrb⟩ : ∃ rb, (w2.alloc (.cells #[roadV 31, roadV 123] 179)).heap.size = rb := ⟨_, rfl⟩
    rw [hrb] at hr hc3
    have HC3 := Lib.hid hc3
    unfold roadV at hr
    clear hb2 hb3 hrb HB2 hc3 hcell hfl
    generalize (fs ++ [31, 123]) = F at *
    go_wp2_with (at_builtin; go_loud (refine Lib.wpList_append_run _ rfl _ _ _ _ rfl _ _ rfl rfl _ _ hr ?_))
    go_loopg [43] (k + 2) (fun gk u wr => ∃ j : Nat, Hid (j + gk = k + 2 ∧ ∀ i, i < j → ∃ p' e', Q i p' e' ∧ e' ≠ 0) ∧ u = .int .i64 j ∧ Hid (IdAt w wr ∧ Below w3.heap.size w3 wr))
    case atStart => exact ⟨0, Lib.hid ⟨Nat.zero_add _, fun i hi => absurd hi (Nat.not_lt_zero _)⟩, by go_num, Lib.hid ⟨HB3.out, Below.refl _ _⟩⟩
    case round =>
      clear HB3 hr
      obtain ⟨j, hj, rfl, HB⟩ := hrel
      by_cases hlt : j < k + 2
      · have hlt' : (j : Int) < (k : Int) + 2 := by omega
        have hj0 : (0 : Int) ≤ (j : Int) := by omega
        have hjF : j < F.length := by rw [HLN.out]; exact hlt
        have g0 := below_cell' HB.out.2 (HC3.out j hjF)
        have HX := Lib.hid (HR.out wr HB.out.1.bel j hjF)
        have hro := HRO.out j hjF
        unfold roadV at g0
        generalize F[j] = fn at g0 HX hro
        rcases hro with rfl | rfl | rfl | rfl | rfl
        all_goals
          go_wp2_with fail
          refine HX.out.mono ?_
          rintro _ w4 ⟨p, e, rfl, hq, hb⟩
          have HQ := Lib.hid hq
          have HB4 := Lib.hid ((HB.out.1.next hb).next ((Below.refl w4.heap.size w4).alloc (Nat.le_refl _) (.cells #[.int .i64 p.1, .int .i64 p.2] 24)))
          have HBB : Hid (Below w3.heap.size w3 (w4.alloc (.cells #[.int .i64 p.1, .int .i64 p.2] 24))) := Lib.hid ((HB.out.2.trans (hb.mono HB.out.2.size)).alloc (Nat.le_trans HB.out.2.size hb.size) _)
          clear hb hq HX g0
          unfold idV
          by_cases he : e = 0
          · subst he
            have s0 := HB4.out.s0
            have s1 := HB4.out.s1
            have t0 := HB4.out.t 0
            have t1 := HB4.out.t 1
            have m0 : (w4.alloc (.cells #[.int .i64 p.1, .int .i64 p.2] 24)).cell? ⟨w4.heap.size, 0, none⟩ = some (.int .i64 p.1) := World.cell?_alloc_new ..
            have m1 : (w4.alloc (.cells #[.int .i64 p.1, .int .i64 p.2] 24)).cell? ⟨w4.heap.size, 1, none⟩ = some (.int .i64 p.2) := World.cell?_alloc_new ..
            go_wp2
            refine bodyPost_ret (results_cells_tmp rfl _ _ w.heap.size [.int .i64 p.1, .int .i64 p.2] _ rfl (HB4.out.two _ _) Tryz.underlying24 rfl id_info2) rfl ⟨p, 0, rfl, .inl ⟨rfl, j, hlt, HQ.out, hj.out.2⟩, HB4.out.end _ _⟩
          · have he' : (e == 0) = false := by simpa using he
            have HE := Lib.hid he
            clear he
            go_wp2
            go_roundg (k + 2 - (j + 1))
            case measure => have := hj.out.1; omega
            case rel => exact ⟨j + 1, Lib.hid ⟨by have := hj.out.1; omega, fun i hi => by
              rcases Nat.lt_succ_iff_lt_or_eq.1 hi with h | rfl
              · exact hj.out.2 i h
              · exact ⟨p, e, HQ.out, HE.out⟩⟩, by go_num, Lib.hid ⟨HB4.out, HBB.out⟩⟩
      · have s0 := HB.out.1.s0
        have s1 := HB.out.1.s1
        have t0 := HB.out.1.t 0
        have t1 := HB.out.1.t 1
        have HJ : Hid (j = k + 2) := Lib.hid (by have := hj.out.1; omega)
        go_wp2
        refine bodyPost_ret (results_cells_tmp rfl _ _ w.heap.size [.int .i64 0, .int .i64 0] _ rfl (HB.out.1.two _ _) Tryz.underlying24 rfl id_info2) rfl ⟨(0, 0), 21, rfl, .inr ⟨rfl, rfl, fun i hi => hj.out.2 i (by rw [HJ.out]; exact hi)⟩, HB.out.1.end _ _⟩
end Go.Proofs.YtiiebakblkpkeaaGreatDoor.Hi
/- Access: homes of classes; who sees what. -/
set_option maxRecDepth 100000
set_option maxHeartbeats 1000000
set_option linter.unusedVariables false
set_option linter.unusedSimpArgs false
namespace Go.Proofs.YtiiebakblkpkeaaGreatDoor.Hi
open Go.RowKit Bs
attribute [local go_sem ↓] Go.wp_at_zero Go.wp_at_succ

/-- Two structs and an error come back. -/
theorem results_cells2_tmp {P : Program} {fn : Func} {p q u : Tmp} {ty ty' : TypeId} (h : fn.results = #[.cell p ty, .cell q ty', .tmp u]) (tmps : Array Value) (w : World) (g g' : Nat) (cs cs' : List Value) (d d' : TypeDesc)
    (hp : tmps.getD p undef = .pointer (some ⟨g, 0, none⟩)) (hg : ∀ j (h : j < cs.length), w.cell? ⟨g, j, none⟩ = some cs[j])
    (hu : P.underlying ty = some d) (hd : aggD d = true) (hi : (P.info? ty).map (·.size) = some cs.length)
    (hp' : tmps.getD q undef = .pointer (some ⟨g', 0, none⟩)) (hg' : ∀ j (h : j < cs'.length), w.cell? ⟨g', j, none⟩ = some cs'[j])
    (hu' : P.underlying ty' = some d') (hd' : aggD d' = true) (hi' : (P.info? ty').map (·.size) = some cs'.length) :
    (results fn tmps).run P w = .ok (.tuple #[.agg cs.toArray, .agg cs'.toArray, tmps.getD u undef]) w := by
  have hp1 : tmps[p]?.getD undef = .pointer (some ⟨g, 0, none⟩) := by simpa using hp
  have hp2 : tmps[q]?.getD undef = .pointer (some ⟨g', 0, none⟩) := by simpa using hp'
  simp [results, h, hp1, hp2, asAddr, run_loadVar_cells w g ty cs d hg hu hd hi, run_loadVar_cells w g' ty' cs' d' hg' hu' hd' hi']
theorem home_info : (Tryz.prog.info? 141).map (·.size) = some 2 := by kernel_rfl

/-- The two places of homeOf's answers. -/
structure HomeAt (w w1 : World) : Prop where
  h : ∀ j v, (#[Value.int .i64 0, .string ⟨#[]⟩])[j]? = some v → w1.cell? ⟨w.heap.size, j, none⟩ = some v
  c : ∀ j v, (#[Value.string ⟨#[]⟩, .string ⟨#[]⟩, .slice none 0 0, .int .i64 0, .int .i64 0, .slice none 0 0])[j]? = some v → w1.cell? ⟨w.heap.size + 1, j, none⟩ = some v
  th : ∀ j, w1.frozen? ⟨w.heap.size, j, none⟩ = false
  tc : ∀ j, w1.frozen? ⟨w.heap.size + 1, j, none⟩ = false
  bel : Below w.heap.size w w1
  lt : w.heap.size + 1 < w1.heap.size
theorem HomeAt.start (w : World) : HomeAt w ((w.alloc (.cells #[.int .i64 0, .string ⟨#[]⟩] 141)).alloc (.cells #[.string ⟨#[]⟩, .string ⟨#[]⟩, .slice none 0 0, .int .i64 0, .int .i64 0, .slice none 0 0] 62)) := by
  refine ⟨fun j v hv => alloc_old ((World.cell?_alloc_new ..).trans hv), fun j v hv => ?_, fun j => ?_, fun j => ?_, ((Below.refl _ _).alloc (Nat.le_refl _) _).alloc (by simp) _, by simp⟩
  · have := World.cell?_alloc_new (w.alloc (.cells #[.int .i64 0, .string ⟨#[]⟩] 141)) #[.string ⟨#[]⟩, .string ⟨#[]⟩, .slice none 0 0, .int .i64 0, .int .i64 0, .slice none 0 0] 62 j
    rw [World.size_alloc] at this
    exact this.trans hv
  · exact (World.frozen?_of_block (w := w.alloc (.cells #[.int .i64 0, .string ⟨#[]⟩] 141)) (a := ⟨w.heap.size, j, none⟩) (Below.heap_alloc _ _ _ (by simp))).trans (frozen_new ..)
  · have := frozen_new (w.alloc (.cells #[.int .i64 0, .string ⟨#[]⟩] 141)) #[.string ⟨#[]⟩, .string ⟨#[]⟩, .slice none 0 0, .int .i64 0, .int .i64 0, .slice none 0 0] 62 j
    rw [World.size_alloc] at this
    exact this
theorem HomeAt.next {w w1 w2 : World} (h : HomeAt w w1) (hb : Below w1.heap.size w1 w2) : HomeAt w w2 :=
  ⟨fun j v hv => below_cell' hb (h.h j v hv), fun j v hv => below_cell' hb (h.c j v hv), fun j => (World.frozen?_of_block (w := w1) (a := ⟨w.heap.size, j, none⟩) (hb.block _ (show w.heap.size < _ by have := h.lt; omega))).trans (h.th j), fun j => (World.frozen?_of_block (w := w1) (a := ⟨w.heap.size + 1, j, none⟩) (hb.block _ h.lt)).trans (h.tc j), h.bel.trans (hb.mono h.bel.size), Nat.lt_of_lt_of_le h.lt hb.size⟩

theorem HomeOf {B bw : Nat} {w0 w : World} {m : List EntM} (h : Built B bw w0 w m) {i : Nat} (hi : i < m.length) :
    Calls Tryz.prog 83 #[.pointer (some ⟨bw, 0, none⟩), .int .i64 i] w fun r w' => ∃ cs' : List Value, r = .returned (.tuple #[.agg #[.int .i64 m[i].c.loader, .string (pkgM m[i].c.name)], .agg cs'.toArray, .int .i64 0]) ∧ ClsIs (fun b => b < w'.heap.size) w' cs' m[i].c ∧ Below w.heap.size w w' := by
  have HS := Lib.hid (HomeAt.start w)
  have h' := h.next HS.out.bel
  have HC := Lib.hid (Class_in h'.hw h'.live (entAt_nat hi))
  have hnm : m[i].c.name.size ≤ 1000 := h.ord.short _ (List.getElem_mem hi)
  have HP := Lib.hid (fun wr => Package m[i].c.name (by omega) wr)
  clear h h'
  generalize m[i].c = c at *
  go_enter Tryz.func83, Tryz.ntmps83
  go_wp2_with fail
  refine HC.out.mono ?_
  rintro _ w1 ⟨cs', rfl, hcl, hb⟩
  have HB := Lib.hid (HS.out.next hb)
  have HCL : Hid (ClsIs (fun b => w.heap.size + 2 ≤ b ∧ b < w1.heap.size) w1 cs' c) := Lib.hid (hcl.mono fun b hb => ⟨by simpa using hb.1, hb.2⟩)
  obtain ⟨iv, mv, rfl, _⟩ := hcl
  obtain ⟨ia, ic, rfl, _⟩ := (ClsIs.shape HCL.out).1
  obtain ⟨ma, mc, rfl, _⟩ := (ClsIs.shape HCL.out).2
  clear hb HC HS
  obtain ⟨wx, hwx⟩ : ∃ wx, w1.alloc (.cells #[.string c.name, .string c.super, .slice ia c.ifaces.length ic, .int .i64 c.flags, .int .i64 c.loader, .slice ma c.meths.length mc] 62) = wx := ⟨_, rfl⟩
  have hbx : Below w1.heap.size w1 wx := by rw [← hwx]; exact (Below.refl _ _).alloc (Nat.le_refl _) _
  have HBB := Lib.hid (HB.out.next hbx)
  have HCX := Lib.hid (ClsIs.alike HCL.out (Alike.of_below hbx fun _ h => h.2))
  have m : ∀ j, wx.cell? ⟨w1.heap.size, j, none⟩ = (#[.string c.name, .string c.super, .slice ia c.ifaces.length ic, .int .i64 c.flags, .int .i64 c.loader, .slice ma c.meths.length mc] : Array Value)[j]? := fun j => by rw [← hwx]; exact World.cell?_alloc_new ..
  have m0 : wx.cell? ⟨w1.heap.size, 0, none⟩ = some (.string c.name) := m 0
  have m1 : wx.cell? ⟨w1.heap.size, 1, none⟩ = some (.string c.super) := m 1
  have m2 : wx.cell? ⟨w1.heap.size, 2, none⟩ = some (.slice ia c.ifaces.length ic) := m 2
  have m3 : wx.cell? ⟨w1.heap.size, 3, none⟩ = some (.int .i64 c.flags) := m 3
  have m4 : wx.cell? ⟨w1.heap.size, 4, none⟩ = some (.int .i64 c.loader) := m 4
  have m5 : wx.cell? ⟨w1.heap.size, 5, none⟩ = some (.slice ma c.meths.length mc) := m 5
  have h0 := HBB.out.h 0 _ rfl
  have h1 := HBB.out.h 1 _ rfl
  have r0 := HBB.out.c 0 _ rfl
  have r1 := HBB.out.c 1 _ rfl
  have r2 := HBB.out.c 2 _ rfl
  have r3 := HBB.out.c 3 _ rfl
  have r4 := HBB.out.c 4 _ rfl
  have r5 := HBB.out.c 5 _ rfl
  simp only [List.getElem_toArray, List.getElem_cons_zero, List.getElem_cons_succ] at h0 h1 r0 r1 r2 r3 r4 r5
  have f0 := HBB.out.th 0
  have f1 := HBB.out.th 1
  have e0 := HBB.out.tc 0
  have e1 := HBB.out.tc 1
  have e2 := HBB.out.tc 2
  have e3 := HBB.out.tc 3
  have e4 := HBB.out.tc 4
  have e5 := HBB.out.tc 5
  have HQ : Hid (w1.heap.size ≤ wx.heap.size) := Lib.hid hbx.size
  have hq0 : w.heap.size ≠ w1.heap.size := by have := HB.out.lt; omega
  have hq1 : w.heap.size + 1 ≠ w1.heap.size := by have := HB.out.lt; omega
  go_wp2_with fail
  try rw [hwx]
  generalize w1.heap.size = q at *
  clear hwx hbx m HB HCL
  go_region_held3 (fun w' => w'.cell? ⟨q, 0, none⟩ = some (.string c.name) ∧ w'.cell? ⟨q, 1, none⟩ = some (.string c.super) ∧ w'.cell? ⟨q, 2, none⟩ = some (.slice ia c.ifaces.length ic) ∧ w'.cell? ⟨q, 3, none⟩ = some (.int .i64 c.flags) ∧ w'.cell? ⟨q, 4, none⟩ = some (.int .i64 c.loader) ∧ w'.cell? ⟨q, 5, none⟩ = some (.slice ma c.meths.length mc))
    (go_keep) (first | (go_at_call 112; refine (HP.out _).mono ?_; rintro e _ ⟨rfl, rfl⟩))
  go_wp2
  obtain ⟨W2, hW2⟩ : ∃ W2, (wx.setCell ⟨w.heap.size, 0, none⟩ (.int .i64 c.loader)).setCell ⟨w.heap.size, 1, none⟩ (.string (pkgM c.name)) = W2 := ⟨_, rfl⟩
  have k2 := set2 (v0 := .int .i64 c.loader) (v1 := .string (pkgM c.name)) h0 h1
  rw [hW2] at k2
  have hoff : ∀ j u, wx.cell? ⟨w.heap.size + 1, j, none⟩ = some u → W2.cell? ⟨w.heap.size + 1, j, none⟩ = some u := fun j u h => by
    rw [← hW2]; exact (setCell_off (by omega)).trans ((setCell_off (by omega)).trans h)
  have k6 := set6 (w := W2) (v0 := .string c.name) (v1 := .string c.super) (v2 := .slice ia c.ifaces.length ic) (v3 := .int .i64 c.flags) (v4 := .int .i64 c.loader) (v5 := .slice ma c.meths.length mc) (hoff _ _ r0) (hoff _ _ r1) (hoff _ _ r2) (hoff _ _ r3) (hoff _ _ r4) (hoff _ _ r5)
  have hb2 : Below w.heap.size w W2 := by rw [← hW2]; exact (HBB.out.bel.setCell (Nat.le_refl _) _).setCell (Nat.le_refl _) _
  have hsz : wx.heap.size = W2.heap.size := by rw [← hW2]; simp
  have hbl : ∀ b, w.heap.size + 2 ≤ b → W2.heap[b]? = wx.heap[b]? := fun b hb => by rw [← hW2, Below.heap_setCell _ _ _ _ (show b ≠ w.heap.size by omega), Below.heap_setCell _ _ _ _ (show b ≠ w.heap.size by omega)]
  rw [hW2]
  obtain ⟨W8, hW8⟩ : ∃ W8, (((((W2.setCell ⟨w.heap.size + 1, 0, none⟩ (.string c.name)).setCell ⟨w.heap.size + 1, 1, none⟩ (.string c.super)).setCell ⟨w.heap.size + 1, 2, none⟩ (.slice ia c.ifaces.length ic)).setCell ⟨w.heap.size + 1, 3, none⟩ (.int .i64 c.flags)).setCell ⟨w.heap.size + 1, 4, none⟩ (.int .i64 c.loader)).setCell ⟨w.heap.size + 1, 5, none⟩ (.slice ma c.meths.length mc) = W8 := ⟨_, rfl⟩
  have hh : ∀ j u, W2.cell? ⟨w.heap.size, j, none⟩ = some u → W8.cell? ⟨w.heap.size, j, none⟩ = some u := fun j u h => by
    rw [← hW8]
    iterate 6 rw [setCell_off (by omega)]
    exact h
  have hb8 : Below w.heap.size w W8 := by
    rw [← hW8]
    exact (((((hb2.setCell (Nat.le_succ _) _).setCell (Nat.le_succ _) _).setCell (Nat.le_succ _) _).setCell (Nat.le_succ _) _).setCell (Nat.le_succ _) _).setCell (Nat.le_succ _) _
  have hbl8 : ∀ b, w.heap.size + 2 ≤ b → W8.heap[b]? = wx.heap[b]? := fun b hb => by
    rw [← hW8]
    iterate 6 rw [Below.heap_setCell _ _ _ _ (show b ≠ w.heap.size + 1 by omega)]
    exact hbl b hb
  have hz8 : W2.heap.size = W8.heap.size := by rw [← hW8]; simp
  rw [hW8] at k6
  rw [hW8]
  have hcl : ClsIs (fun b => b < W8.heap.size) W8 [.string c.name, .string c.super, .slice ia c.ifaces.length ic, .int .i64 c.flags, .int .i64 c.loader, .slice ma c.meths.length mc] c :=
    (HCX.out.alike (w' := W8) fun b hb => hbl8 b hb.1).mono fun b hb => by have := HQ.out; have := hb.2; omega
  clear hW8 hW2 hbl hbl8 hoff HCX HBB
  have hd : ∀ p : Addr, W8.drew.cell? p = W8.cell? p := fun _ => rfl
  have hcl' : ClsIs (fun b => b < W8.drew.heap.size) W8.drew [.string c.name, .string c.super, .slice ia c.ifaces.length ic, .int .i64 c.flags, .int .i64 c.loader, .slice ma c.meths.length mc] c := hcl.alike fun _ _ => rfl
  have hb9 := hb8.drew
  have g2 := two ((hd _).trans (hh _ _ k2.1)) ((hd _).trans (hh _ _ k2.2))
  have g6 := six ((hd _).trans k6.1) ((hd _).trans k6.2.1) ((hd _).trans k6.2.2.1) ((hd _).trans k6.2.2.2.1) ((hd _).trans k6.2.2.2.2.1) ((hd _).trans k6.2.2.2.2.2)
  clear hcl hb8 hh k2 k6 hd h0 h1 r0 r1 r2 r3 r4 r5 m0 m1 m2 m3 m4 m5
  generalize W8.drew = W9 at *
  refine bodyPost_ret (results_cells2_tmp rfl _ _ w.heap.size (w.heap.size + 1) [.int .i64 c.loader, .string (pkgM c.name)] [.string c.name, .string c.super, .slice ia c.ifaces.length ic, .int .i64 c.flags, .int .i64 c.loader, .slice ma c.meths.length mc] _ _ rfl g2 Tryz.underlying141 rfl home_info rfl g6 Tryz.underlying62 rfl class_info) rfl ⟨_, rfl, hcl', hb9⟩
end Go.Proofs.YtiiebakblkpkeaaGreatDoor.Hi
/- Access: is a class, a type, a method open? -/
set_option maxRecDepth 100000
set_option maxHeartbeats 1000000
set_option linter.unusedVariables false
set_option linter.unusedSimpArgs false
namespace Go.Proofs.YtiiebakblkpkeaaGreatDoor.Hi
open Go.RowKit Bs

def homeB (c d : ClsM) : Bool := (c.loader == d.loader) && ((pkgM c.name).toList == (pkgM d.name).toList)
def classOpenM (m : List EntM) (i j : Nat) : Bool := (bits .and .i64 (clsAt m j).flags 1 != 0) || homeB (clsAt m i) (clsAt m j)

theorem HomeOf2 {B bw : Nat} {w0 w : World} {m : List EntM} (h : Built B bw w0 w m) {i : Nat} (hi : i < m.length) :
    Calls Tryz.prog 83 #[.pointer (some ⟨bw, 0, none⟩), .int .i64 i] w fun r w' => ∃ (ia ma : Option Addr) (il ic ml mc : Nat), r = .returned (.tuple #[.agg #[.int .i64 m[i].c.loader, .string (pkgM m[i].c.name)], .agg #[.string m[i].c.name, .string m[i].c.super, .slice ia il ic, .int .i64 m[i].c.flags, .int .i64 m[i].c.loader, .slice ma ml mc], .int .i64 0]) ∧ Below w.heap.size w w' :=
  (HomeOf h hi).mono fun r w' ⟨cs', h1, h2, h3⟩ => by
    obtain ⟨iv, mv, rfl, _⟩ := id h2
    obtain ⟨ia, ic, rfl, _⟩ := (ClsIs.shape h2).1
    obtain ⟨ma, mc, rfl, _⟩ := (ClsIs.shape h2).2
    exact ⟨_, _, _, _, _, _, h1, h3⟩

theorem ClassOpen {B bw : Nat} {w0 w : World} {m : List EntM} (h : Built B bw w0 w m) {i j : Nat} (hi : i < m.length) (hj : j < m.length) :
    Calls Tryz.prog 86 #[.pointer (some ⟨bw, 0, none⟩), .int .i64 i, .int .i64 j] w fun r w' => r = .returned (.tuple #[.bool (classOpenM m i j), .int .i64 0]) ∧ Below w.heap.size w w' := by
  have H1 := Lib.hid (HomeOf2 h hi)
  have H2 := Lib.hid (fun wr (hr : Below w.heap.size w wr) => HomeOf2 (h.next hr) hj)
  have HE : Hid (classOpenM m i j = ((bits .and .i64 m[j].c.flags 1 != 0) || ((m[i].c.loader == m[j].c.loader) && ((pkgM m[i].c.name).toList == (pkgM m[j].c.name).toList)))) := Lib.hid (by unfold classOpenM homeB; rw [clsAt_at hi, clsAt_at hj])
  generalize classOpenM m i j = R at *
  generalize m[i].c = c at *
  generalize m[j].c = d at *
  clear h
  generalize pkgM c.name = pc at *
  generalize pkgM d.name = pd at *
  generalize c.loader = lc at *
  generalize d.loader = ld at *
  generalize c.name = nc at *
  generalize d.name = nd at *
  go_enter Tryz.func86, Tryz.ntmps86
  go_wp2_with fail
  refine H1.out.mono ?_
  rintro _ w1 ⟨ia, ma, il, ic, ml, mc, rfl, hb⟩
  obtain ⟨wx, hwx⟩ : ∃ wx, ((w1.alloc (.cells #[.int .i64 lc, .string pc] 141)).alloc (.cells #[.string nc, .string c.super, .slice ia il ic, .int .i64 c.flags, .int .i64 lc, .slice ma ml mc] 62)) = wx := ⟨_, rfl⟩
  have hbx : Below w1.heap.size w1 wx := by rw [← hwx]; exact ((Below.refl _ _).alloc (Nat.le_refl _) _).alloc (by simp) _
  have k0 : wx.cell? ⟨w1.heap.size, 0, none⟩ = some (.int .i64 lc) := by rw [← hwx]; exact alloc_old (World.cell?_alloc_new ..)
  have k1 : wx.cell? ⟨w1.heap.size, 1, none⟩ = some (.string pc) := by rw [← hwx]; exact alloc_old (World.cell?_alloc_new ..)
  have HBX : Hid (Below w.heap.size w wx) := Lib.hid (hb.trans (hbx.mono hb.size))
  have HX := Lib.hid (H2.out wx HBX.out)
  clear hb H1 H2 hbx
  go_wp2_with fail
  try rw [hwx]
  clear hwx
  refine HX.out.mono ?_
  rintro _ w2 ⟨ia2, ma2, il2, ic2, ml2, mc2, rfl, hb⟩
  obtain ⟨wy, hwy⟩ : ∃ wy, ((w2.alloc (.cells #[.int .i64 ld, .string pd] 141)).alloc (.cells #[.string nd, .string d.super, .slice ia2 il2 ic2, .int .i64 d.flags, .int .i64 ld, .slice ma2 ml2 mc2] 62)) = wy := ⟨_, rfl⟩
  have hby : Below w2.heap.size w2 wy := by rw [← hwy]; exact ((Below.refl _ _).alloc (Nat.le_refl _) _).alloc (by simp) _
  have q0 := below_cell' hby (below_cell' hb k0)
  have q1 := below_cell' hby (below_cell' hb k1)
  have p0 : wy.cell? ⟨w2.heap.size, 0, none⟩ = some (.int .i64 ld) := by rw [← hwy]; exact alloc_old (World.cell?_alloc_new ..)
  have p1 : wy.cell? ⟨w2.heap.size, 1, none⟩ = some (.string pd) := by rw [← hwy]; exact alloc_old (World.cell?_alloc_new ..)
  have p3 : wy.cell? ⟨w2.heap.size + 1, 3, none⟩ = some (.int .i64 d.flags) := by
    rw [← hwy]
    have := World.cell?_alloc_new (w2.alloc (.cells #[.int .i64 ld, .string pd] 141)) #[.string nd, .string d.super, .slice ia2 il2 ic2, .int .i64 d.flags, .int .i64 ld, .slice ma2 ml2 mc2] 62 3
    rw [World.size_alloc] at this
    exact this
  have HBY := Lib.hid ((HBX.out.trans (hb.mono HBX.out.size)).trans (hby.mono (Nat.le_trans HBX.out.size hb.size)))
  clear hb hby k0 k1 HX HBX
  cases hf : (bits .and .i64 d.flags 1 != 0)
  · rw [hf, Bool.false_or] at HE
    by_cases hl : lc = ld
    · subst hl
      rw [beq_self_eq_true, Bool.true_and] at HE
      by_cases hp : pc.toList = pd.toList
      · have G : Hid (R = true) := Lib.hid (by rw [HE.out, hp, beq_self_eq_true])
        go_wp2
        go_ret2
        exact ⟨by rw [G.out]; rfl, HBY.out⟩
      · have G : Hid (R = false) := Lib.hid (by rw [HE.out]; exact beq_eq_false_iff_ne.2 hp)
        go_wp2
        go_ret2
        exact ⟨by rw [G.out]; rfl, HBY.out⟩
    · have G : Hid (R = false) := Lib.hid (by rw [HE.out, beq_eq_false_iff_ne.2 hl, Bool.false_and])
      go_wp2
      go_ret2
      exact ⟨by rw [G.out]; rfl, HBY.out⟩
  · rw [hf, Bool.true_or] at HE
    go_wp2
    go_ret2
    exact ⟨by rw [HE.out]; rfl, HBY.out⟩

/-- A class type that is there: what its class says. -/
theorem TypeOpen_class {B bw : Nat} {w0 w : World} {m : List EntM} (h : Built B bw w0 w m) {i j : Nat} (hi : i < m.length) (hj : j < m.length) (t : TyM) (hs : t.name.size ≤ maxLen) (he : Lf.Env w) (hl : loadedE m t = 0) (hE : t.name.toList.isEmpty = false) (hn : byNameM m t.name = ((j : Int), 0)) :
    Calls Tryz.prog 53 #[.pointer (some ⟨bw, 0, none⟩), .int .i64 i, .agg #[.int .i64 t.dims, .string t.name]] w fun r w' => r = .returned (.tuple #[.bool (classOpenM m i j), .int .i64 0]) ∧ Below w.heap.size w w' := by
  have hb : Below w.heap.size w (w.alloc (.cells #[.int .i64 t.dims, .string t.name] 33)) := (Below.refl _ _).alloc (Nat.le_refl _) _
  have HB := Lib.hid hb
  have H1 := Lib.hid (HomeOf2 (h.next hb) hi)
  have HL := Lib.hid (fun wr (hr : Below w.heap.size w wr) => Loaded (h.next hr) t hs (he.below hr))
  rw [hl] at HL
  have HN := Lib.hid (fun wr (hr : Below w.heap.size w wr) => ByName (h.next hr).hw t.name hs)
  rw [hn] at HN
  have HO := Lib.hid (fun wr (hr : Below w.heap.size w wr) => ClassOpen (h.next hr) hi hj)
  have hE' : (!t.name.toList.isEmpty) = true := by rw [hE]; rfl
  have q0 : (w.alloc (.cells #[.int .i64 t.dims, .string t.name] 33)).cell? ⟨w.heap.size, 0, none⟩ = some (.int .i64 t.dims) := World.cell?_alloc_new ..
  have q1 : (w.alloc (.cells #[.int .i64 t.dims, .string t.name] 33)).cell? ⟨w.heap.size, 1, none⟩ = some (.string t.name) := World.cell?_alloc_new ..
  unfold TyM.val at *
  clear h he hl hn hb hs
  generalize classOpenM m i j = R at *
  generalize m[i].c = c at *
  generalize pkgM c.name = pc at *
  generalize t.dims = dm at *
  generalize t.name = nm at *
  go_enter Tryz.func53, Tryz.ntmps53
  go_wp2_with fail
  refine H1.out.mono ?_
  rintro _ w1 ⟨ia, ma, il, ic, ml, mc, rfl, hb⟩
  obtain ⟨wx, hwx⟩ : ∃ wx, ((w1.alloc (.cells #[.int .i64 c.loader, .string pc] 141)).alloc (.cells #[.string c.name, .string c.super, .slice ia il ic, .int .i64 c.flags, .int .i64 c.loader, .slice ma ml mc] 62)) = wx := ⟨_, rfl⟩
  have hbx : Below w1.heap.size w1 wx := by rw [← hwx]; exact ((Below.refl _ _).alloc (Nat.le_refl _) _).alloc (by simp) _
  have k0 := below_cell' hbx (below_cell' hb q0)
  have k1 := below_cell' hbx (below_cell' hb q1)
  have HBX : Hid (Below w.heap.size w wx) := Lib.hid ((HB.out.trans (hb.mono HB.out.size)).trans (hbx.mono (Nat.le_trans HB.out.size hb.size)))
  have HLX := Lib.hid (HL.out wx HBX.out)
  clear hb hbx q0 q1 HB H1 HL
  go_wp2_with fail
  try rw [hwx]
  clear hwx
  refine HLX.out.mono ?_
  rintro _ w2 ⟨rfl, hb⟩
  have q0 := below_cell' hb k0
  have q1 := below_cell' hb k1
  have HB2 := Lib.hid (HBX.out.trans (hb.mono HBX.out.size))
  have HNX := Lib.hid (HN.out w2 HB2.out)
  have HOX := Lib.hid (HO.out w2 HB2.out)
  clear hb k0 k1 HLX HBX HN HO
  go_wp2_with fail
  refine HNX.out.mono ?_
  rintro _ w3 ⟨rfl, rfl⟩
  go_wp2_with fail
  refine HOX.out.mono ?_
  rintro _ w3 ⟨rfl, hb⟩
  have HB3 := Lib.hid (HB2.out.trans (hb.mono HB2.out.size))
  clear hb
  go_wp2
  go_ret2
  exact ⟨rfl, HB3.out⟩
end Go.Proofs.YtiiebakblkpkeaaGreatDoor.Hi
/- Access: a public method of one's own class. -/
set_option maxRecDepth 100000
set_option maxHeartbeats 1000000
set_option linter.unusedVariables false
set_option linter.unusedSimpArgs false
namespace Go.Proofs.YtiiebakblkpkeaaGreatDoor.Hi
open Go.RowKit Bs

theorem MethodOpen_own {B bw : Nat} {w0 w : World} {m : List EntM} (h : Built B bw w0 w m) {i j b : Nat} (hi : i < m.length) (hj : j < m.length) (hb : b < m[i].c.meths.length) (ho : openM m[i].c.meths[b].flags = 1) :
    Calls Tryz.prog 49 #[.pointer (some ⟨bw, 0, none⟩), .int .i64 i, .agg #[.int .i64 i, .int .i64 b], .int .i64 j] w fun r w' => r = .returned (.tuple #[.bool true, .int .i64 0]) ∧ Below w.heap.size w w' := by
  have hba : Below w.heap.size w (w.alloc (.cells #[.int .i64 i, .int .i64 b] 24)) := (Below.refl _ _).alloc (Nat.le_refl _) _
  have HB := Lib.hid hba
  have H1 := Lib.hid (fun wr (hr : Below w.heap.size w wr) => HomeOf2 (h.next hr) hi)
  have HC := Lib.hid (fun wr (hr : Below w.heap.size w wr) => Class2 (h.next hr) hj)
  have HM := Lib.hid (fun wr (hr : Below w.heap.size w wr) => Method2 (h.next hr) hi hb)
  have HF := Lib.hid (fun wr => FOpen m[i].c.meths[b].flags wr)
  rw [ho] at HF
  have q0 : (w.alloc (.cells #[.int .i64 i, .int .i64 b] 24)).cell? ⟨w.heap.size, 0, none⟩ = some (.int .i64 i) := World.cell?_alloc_new ..
  have q1 : (w.alloc (.cells #[.int .i64 i, .int .i64 b] 24)).cell? ⟨w.heap.size, 1, none⟩ = some (.int .i64 b) := World.cell?_alloc_new ..
  have H1X := Lib.hid (H1.out _ hba)
  generalize m[i].c.meths[b] = x at HM HF
  clear h hba hb ho
  generalize m[i].c = c at *
  generalize pkgM c.name = pc at *
  go_enter Tryz.func49, Tryz.ntmps49
  go_wp2_with fail
  refine H1X.out.mono ?_
  rintro _ w1 ⟨ia, ma, il, ic, ml, mc, rfl, hb⟩
  obtain ⟨wx, hwx⟩ : ∃ wx, ((w1.alloc (.cells #[.int .i64 c.loader, .string pc] 141)).alloc (.cells #[.string c.name, .string c.super, .slice ia il ic, .int .i64 c.flags, .int .i64 c.loader, .slice ma ml mc] 62)) = wx := ⟨_, rfl⟩
  have hbx : Below w1.heap.size w1 wx := by rw [← hwx]; exact ((Below.refl _ _).alloc (Nat.le_refl _) _).alloc (by simp) _
  have k0 := below_cell' hbx (below_cell' hb q0)
  have k1 := below_cell' hbx (below_cell' hb q1)
  have a0 : wx.cell? ⟨w1.heap.size, 0, none⟩ = some (.int .i64 c.loader) := by rw [← hwx]; exact alloc_old (World.cell?_alloc_new ..)
  have a1 : wx.cell? ⟨w1.heap.size, 1, none⟩ = some (.string pc) := by rw [← hwx]; exact alloc_old (World.cell?_alloc_new ..)
  have HBX : Hid (Below w.heap.size w wx) := Lib.hid ((HB.out.trans (hb.mono HB.out.size)).trans (hbx.mono (Nat.le_trans HB.out.size hb.size)))
  have HCX := Lib.hid (HC.out wx HBX.out)
  clear hb hbx q0 q1 HB H1X HC
  go_wp2_with fail
  try rw [hwx]
  clear hwx
  refine HCX.out.mono ?_
  rintro _ w2 ⟨v0, v1, ia2, ma2, il2, ic2, ml2, mc2, f2, l2, rfl, hb⟩
  obtain ⟨wy, hwy⟩ : ∃ wy, (w2.alloc (.cells #[.string v0, .string v1, .slice ia2 il2 ic2, .int .i64 f2, .int .i64 l2, .slice ma2 ml2 mc2] 62)) = wy := ⟨_, rfl⟩
  have hby : Below w2.heap.size w2 wy := by rw [← hwy]; exact (Below.refl _ _).alloc (Nat.le_refl _) _
  have q0 := below_cell' hby (below_cell' hb k0)
  have q1 := below_cell' hby (below_cell' hb k1)
  have b0 := below_cell' hby (below_cell' hb a0)
  have b1 := below_cell' hby (below_cell' hb a1)
  have HBY : Hid (Below w.heap.size w wy) := Lib.hid ((HBX.out.trans (hb.mono HBX.out.size)).trans (hby.mono (Nat.le_trans HBX.out.size hb.size)))
  have HMX := Lib.hid (HM.out wy HBY.out)
  clear hb hby k0 k1 a0 a1 HBX HCX HM
  go_wp2_with fail
  try rw [hwy]
  clear hwy
  refine HMX.out.mono ?_
  rintro _ w3 ⟨ad3, q3, c3, rfl, hb⟩
  obtain ⟨wz, hwz⟩ : ∃ wz, (w3.alloc (.cells #[.string x.name, .string x.desc, .int .i64 x.flags, .int .i64 x.locals, .int .i64 x.stack, .slice ad3 q3 c3] 39)) = wz := ⟨_, rfl⟩
  have hbz : Below w3.heap.size w3 wz := by rw [← hwz]; exact (Below.refl _ _).alloc (Nat.le_refl _) _
  have k0 := below_cell' hbz (below_cell' hb q0)
  have k1 := below_cell' hbz (below_cell' hb q1)
  have a0 := below_cell' hbz (below_cell' hb b0)
  have a1 := below_cell' hbz (below_cell' hb b1)
  have x2 : wz.cell? ⟨w3.heap.size, 2, none⟩ = some (.int .i64 x.flags) := by rw [← hwz]; exact World.cell?_alloc_new ..
  have HBZ : Hid (Below w.heap.size w wz) := Lib.hid ((HBY.out.trans (hb.mono HBY.out.size)).trans (hbz.mono (Nat.le_trans HBY.out.size hb.size)))
  have H1X := Lib.hid (H1.out wz HBZ.out)
  clear hb hbz q0 q1 b0 b1 HBY HMX H1
  go_wp2_with fail
  try rw [hwz]
  clear hwz
  refine H1X.out.mono ?_
  rintro _ w4 ⟨ia4, ma4, il4, ic4, ml4, mc4, rfl, hb⟩
  obtain ⟨wx, hwx⟩ : ∃ wx, ((w4.alloc (.cells #[.int .i64 c.loader, .string pc] 141)).alloc (.cells #[.string c.name, .string c.super, .slice ia4 il4 ic4, .int .i64 c.flags, .int .i64 c.loader, .slice ma4 ml4 mc4] 62)) = wx := ⟨_, rfl⟩
  have hbx : Below w4.heap.size w4 wx := by rw [← hwx]; exact ((Below.refl _ _).alloc (Nat.le_refl _) _).alloc (by simp) _
  have q0 := below_cell' hbx (below_cell' hb k0)
  have q1 := below_cell' hbx (below_cell' hb k1)
  have b0 := below_cell' hbx (below_cell' hb a0)
  have b1 := below_cell' hbx (below_cell' hb a1)
  have y2 := below_cell' hbx (below_cell' hb x2)
  have e0 : wx.cell? ⟨w4.heap.size, 0, none⟩ = some (.int .i64 c.loader) := by rw [← hwx]; exact alloc_old (World.cell?_alloc_new ..)
  have e1 : wx.cell? ⟨w4.heap.size, 1, none⟩ = some (.string pc) := by rw [← hwx]; exact alloc_old (World.cell?_alloc_new ..)
  have HBW : Hid (Below w.heap.size w wx) := Lib.hid ((HBZ.out.trans (hb.mono HBZ.out.size)).trans (hbx.mono (Nat.le_trans HBZ.out.size hb.size)))
  have HFX := Lib.hid (HF.out wx)
  clear hb hbx k0 k1 a0 a1 x2 HBZ H1X HF
  go_wp2_with fail
  try rw [hwx]
  clear hwx
  refine HFX.out.mono ?_
  rintro _ w5 ⟨rfl, rfl⟩
  go_wp2
  go_ret2
  exact ⟨rfl, HBW.out⟩
end Go.Proofs.YtiiebakblkpkeaaGreatDoor.Hi
/- Lookup, LookupIface. -/
set_option maxRecDepth 100000
set_option maxHeartbeats 1000000
set_option linter.unusedVariables false
set_option linter.unusedSimpArgs false
namespace Go.Proofs.YtiiebakblkpkeaaGreatDoor.Hi
open Go.RowKit Bs

theorem along3 {a b c : (Int × Int) × Int} {p : Int × Int} {e : Int} (h : Along (fun j p e => (j = 0 ∧ (p, e) = a) ∨ (j = 1 ∧ (p, e) = b) ∨ (j = 2 ∧ (p, e) = c)) 3 p e) : (p, e) = firstR [a, b, c] := by
  have key : ∀ j, (∃ p' e', ((j = 0 ∧ (p', e') = a) ∨ (j = 1 ∧ (p', e') = b) ∨ (j = 2 ∧ (p', e') = c)) ∧ e' ≠ 0) → (j = 0 → a.2 ≠ 0) ∧ (j = 1 → b.2 ≠ 0) ∧ (j = 2 → c.2 ≠ 0) := by
    rintro j ⟨p', e', h | h | h, hne⟩
    · obtain ⟨rfl, rfl⟩ := h
      exact ⟨fun _ => hne, by omega, by omega⟩
    · obtain ⟨rfl, rfl⟩ := h
      exact ⟨by omega, fun _ => hne, by omega⟩
    · obtain ⟨rfl, rfl⟩ := h
      exact ⟨by omega, by omega, fun _ => hne⟩
  rcases h with ⟨rfl, k, hk, hq, hp⟩ | ⟨rfl, rfl, hp⟩
  · rcases hq with ⟨rfl, rfl⟩ | ⟨rfl, rfl⟩ | ⟨rfl, rfl⟩
    · simp [firstR]
    · have h0 := (key 0 (hp 0 (by omega))).1 rfl
      simp [firstR, h0]
    · have h0 := (key 0 (hp 0 (by omega))).1 rfl
      have h1 := (key 1 (hp 1 (by omega))).2.1 rfl
      simp [firstR, h0, h1]
  · have h0 := (key 0 (hp 0 (by omega))).1 rfl
    have h1 := (key 1 (hp 1 (by omega))).2.1 rfl
    have h2 := (key 2 (hp 2 (by omega))).2.2 rfl
    simp [firstR, h0, h1, h2]
theorem along_own {a : (Int × Int) × Int} {Q : Nat → Int × Int → Int → Prop} {n : Nat} (hn : 0 < n) (hQ : ∀ p e, Q 0 p e → (p, e) = a) (ha : a.2 = 0) {p : Int × Int} {e : Int} (h : Along Q n p e) : p = a.1 ∧ e = 0 := by
  rcases h with ⟨rfl, k, hk, hq, hp⟩ | ⟨_, _, hp⟩
  · rcases Nat.eq_zero_or_pos k with rfl | h0
    · have := hQ _ _ hq
      exact ⟨by rw [← this], rfl⟩
    · obtain ⟨p', e', h1, h2⟩ := hp 0 h0
      have := hQ _ _ h1
      rw [← this] at ha
      exact absurd ha h2
  · obtain ⟨p', e', h1, h2⟩ := hp 0 hn
    have := hQ _ _ h1
    rw [← this] at ha
    exact absurd ha h2

theorem Lookup_in {B bw : Nat} {w0 w : World} {m : List EntM} (h : Built B bw w0 w m) {c : Nat} (hc : c < m.length) (hi : isIfaceM m c = false) (n d : ByteArray) :
    Calls Tryz.prog 82 #[.pointer (some ⟨bw, 0, none⟩), .int .i64 c, .string n, .string d] w fun r w' => r = .returned (.tuple #[idV (lookupM m c n d).1, .int .i64 (lookupM m c n d).2]) ∧ Below w.heap.size w w' := by
  have HS := Lib.hid (IdAt.start w)
  obtain ⟨wa, hwa⟩ : ∃ wa, ((w.alloc (.cells #[.int .i64 0, .int .i64 0] 24)).alloc (.cells #[.func (.func 111) #[] #[]] 179)) = wa := ⟨_, rfl⟩
  have hba : Below (w.alloc (.cells #[.int .i64 0, .int .i64 0] 24)).heap.size (w.alloc (.cells #[.int .i64 0, .int .i64 0] 24)) wa := by rw [← hwa]; exact (Below.refl _ _).alloc (Nat.le_refl _) _
  have HSA := Lib.hid (HS.out.next hba)
  have hcell : wa.cell? ⟨w.heap.size + 1, 0, none⟩ = some (roadV 111) := by
    rw [← hwa]
    have := World.cell?_alloc_new (w.alloc (.cells #[.int .i64 0, .int .i64 0] 24)) #[.func (.func 111) #[] #[]] 179 0
    rw [World.size_alloc] at this
    exact this
  have h' := h.next HSA.out.bel
  have HL := Lib.hid (Look_in (bw := bw) (w := wa) (c := c) (ifc := false) (g := w.heap.size + 1) (k := 1) n d (by omega) [111] rfl (fun j hj => by
      obtain rfl : j = 0 := by simpa using hj
      exact hcell) (fun wr hr => Class2 (h'.next hr) hc) (fun wr hr => by rw [← hi]; exact (h'.next hr).isIface c)
      (fun j p e => (j = 0 ∧ (p, e) = chainR m c n d) ∨ (j = 1 ∧ (p, e) = oneM m c n d) ∨ (j = 2 ∧ (p, e) = someM m c n d))
      (fun j hj => by
        match j, hj with
        | 0, _ => exact .inl rfl
        | 1, _ => exact .inr (.inr (.inr (.inl rfl)))
        | 2, _ => exact .inr (.inr (.inr (.inr rfl))))
      (fun wr hr j hj => by
        match j, hj with
        | 0, _ => exact (ChainR (h'.next hr) hc n d).mono fun r w' ⟨h1, h2⟩ => ⟨_, _, h1, .inl ⟨rfl, rfl⟩, h2⟩
        | 1, _ => exact (One (h'.next hr) hc n d).mono fun r w' ⟨h1, h2⟩ => ⟨_, _, h1, .inr (.inl ⟨rfl, rfl⟩), h2⟩
        | 2, _ => exact (SomeR (h'.next hr) hc n d).mono fun r w' ⟨h1, h2⟩ => ⟨_, _, h1, .inr (.inr ⟨rfl, rfl⟩), h2⟩))
  have HQ : Hid (∀ p e, Along (fun j p e => (j = 0 ∧ (p, e) = chainR m c n d) ∨ (j = 1 ∧ (p, e) = oneM m c n d) ∨ (j = 2 ∧ (p, e) = someM m c n d)) (1 + 2) p e → lookupM m c n d = (p, e)) := Lib.hid fun p e ha => (along3 ha).symm
  unfold idV
  generalize lookupM m c n d = R at *
  clear h h' hba HS hcell
  go_enter Tryz.func82, Tryz.ntmps82
  go_wp2_with fail
  try rw [hwa]
  clear hwa
  refine HL.out.mono ?_
  rintro _ w1 ⟨p, e, rfl, ha, hb⟩
  have HR := Lib.hid (HQ.out p e ha)
  have HB := Lib.hid (HSA.out.next hb)
  have s0 := HB.out.s0
  have s1 := HB.out.s1
  have t0 := HB.out.t 0
  have t1 := HB.out.t 1
  clear ha hb HQ HL HSA
  unfold idV
  go_wp2
  refine bodyPost_ret (results_cells_tmp rfl _ _ w.heap.size [.int .i64 p.1, .int .i64 p.2] _ rfl (HB.out.two _ _) Tryz.underlying24 rfl id_info2) rfl ⟨by rw [HR.out]; rfl, HB.out.end _ _⟩
end Go.Proofs.YtiiebakblkpkeaaGreatDoor.Hi
/- A class by its text; a method by its reference: the ways on which all is well. -/
set_option maxRecDepth 100000
set_option maxHeartbeats 1000000
set_option linter.unusedVariables false
set_option linter.unusedSimpArgs false
namespace Go.Proofs.YtiiebakblkpkeaaGreatDoor.Hi
open Go.RowKit Bs

/-- The place of a type that is the answer. -/
structure TyAt (w w1 : World) : Prop where
  s0 : w1.cell? ⟨w.heap.size, 0, none⟩ = some (.int .i64 0)
  s1 : w1.cell? ⟨w.heap.size, 1, none⟩ = some (.string ⟨#[]⟩)
  t : ∀ j, w1.frozen? ⟨w.heap.size, j, none⟩ = false
  bel : Below w.heap.size w w1
  lt : w.heap.size < w1.heap.size
theorem TyAt.start (w : World) : TyAt w (w.alloc (.cells #[.int .i64 0, .string ⟨#[]⟩] 33)) :=
  ⟨World.cell?_alloc_new .., World.cell?_alloc_new .., fun j => frozen_new .., (Below.refl _ _).alloc (Nat.le_refl _) _, by simp⟩
theorem TyAt.next {w w1 w2 : World} (h : TyAt w w1) (hb : Below w1.heap.size w1 w2) : TyAt w w2 :=
  ⟨below_cell' hb h.s0, below_cell' hb h.s1, fun j => (World.frozen?_of_block (w := w1) (a := ⟨w.heap.size, j, none⟩) (hb.block _ h.lt)).trans (h.t j), h.bel.trans (hb.mono h.bel.size), Nat.lt_of_lt_of_le h.lt hb.size⟩
theorem TyAt.two {w w1 : World} (h : TyAt w w1) (v0 v1 : Value) : ∀ j (hj : j < [v0, v1].length), ((w1.setCell ⟨w.heap.size, 0, none⟩ v0).setCell ⟨w.heap.size, 1, none⟩ v1).cell? ⟨w.heap.size, j, none⟩ = some [v0, v1][j] := by
  have key := set2 (v0 := v0) (v1 := v1) h.s0 h.s1
  exact Hi.two key.1 key.2
theorem TyAt.end {w w1 : World} (h : TyAt w w1) (v0 v1 : Value) : Below w.heap.size w ((w1.setCell ⟨w.heap.size, 0, none⟩ v0).setCell ⟨w.heap.size, 1, none⟩ v1) :=
  (h.bel.setCell (Nat.le_refl _) _).setCell (Nat.le_refl _) _
theorem type_info2 : (Tryz.prog.info? 33).map (·.size) = some 2 := by kernel_rfl

theorem RClass_ok {bw : Nat} {w : World} {dd : Int} {s : ByteArray} (t : TyM)
    (HC0 : ∀ wr, Below w.heap.size w wr → Calls Tryz.prog 47 #[.pointer (some ⟨bw, 0, none⟩), .int .i64 dd] wr fun r w' => ∃ (v0 v1 : ByteArray) (ia ma : Option Addr) (il ic ml mc : Nat) (f l : Int), r = .returned (.tuple #[.agg #[.string v0, .string v1, .slice ia il ic, .int .i64 f, .int .i64 l, .slice ma ml mc], .int .i64 0]) ∧ Below wr.heap.size wr w')
    (HP0 : ∀ wr, Below w.heap.size w wr → Calls Tryz.prog 34 #[.string s] wr fun r w' => r = .returned (.tuple #[.agg #[.int .i64 t.dims, .string t.name], .int .i64 0]) ∧ Below wr.heap.size wr w')
    (HL0 : ∀ wr, Below w.heap.size w wr → Calls Tryz.prog 50 #[.pointer (some ⟨bw, 0, none⟩), .agg #[.int .i64 t.dims, .string t.name]] wr fun r w' => r = .returned (.int .i64 0) ∧ Below wr.heap.size wr w')
    (HT0 : ∀ wr, Below w.heap.size w wr → Calls Tryz.prog 53 #[.pointer (some ⟨bw, 0, none⟩), .int .i64 dd, .agg #[.int .i64 t.dims, .string t.name]] wr fun r w' => r = .returned (.tuple #[.bool true, .int .i64 0]) ∧ Below wr.heap.size wr w') :
    Calls Tryz.prog 24 #[.pointer (some ⟨bw, 0, none⟩), .int .i64 dd, .string s] w fun r w' => r = .returned (.tuple #[.agg #[.int .i64 t.dims, .string t.name], .int .i64 0]) ∧ Below w.heap.size w w' := by
  have HS := Lib.hid (TyAt.start w)
  have HC := Lib.hid (HC0 _ HS.out.bel)
  have HP := Lib.hid HP0
  have HL := Lib.hid HL0
  have HT := Lib.hid HT0
  clear HC0 HP0 HL0 HT0
  generalize t.dims = dm at *
  generalize t.name = nm at *
  go_enter Tryz.func24, Tryz.ntmps24
  go_wp2_with fail
  refine HC.out.mono ?_
  rintro _ w1 ⟨v0, v1, ia, ma, il, ic, ml, mc, f, l, rfl, hb⟩
  have HB1 := Lib.hid ((HS.out.next hb).next ((Below.refl w1.heap.size w1).alloc (Nat.le_refl _) (.cells #[.string v0, .string v1, .slice ia il ic, .int .i64 f, .int .i64 l, .slice ma ml mc] 62)))
  clear hb HC HS
  go_wp2_with fail
  refine (HP.out _ HB1.out.bel).mono ?_
  rintro _ w2 ⟨rfl, hb⟩
  have HB2 := Lib.hid ((HB1.out.next hb).next ((Below.refl w2.heap.size w2).alloc (Nat.le_refl _) (.cells #[.int .i64 dm, .string nm] 33)))
  have m0 : (w2.alloc (.cells #[.int .i64 dm, .string nm] 33)).cell? ⟨w2.heap.size, 0, none⟩ = some (.int .i64 dm) := World.cell?_alloc_new ..
  have m1 : (w2.alloc (.cells #[.int .i64 dm, .string nm] 33)).cell? ⟨w2.heap.size, 1, none⟩ = some (.string nm) := World.cell?_alloc_new ..
  clear hb HP HB1
  go_wp2_with fail
  refine (HL.out _ HB2.out.bel).mono ?_
  rintro _ w3 ⟨rfl, hb⟩
  have HB3 := Lib.hid (HB2.out.next hb)
  have p0 := below_cell' hb m0
  have p1 := below_cell' hb m1
  clear hb HL HB2 m0 m1
  go_wp2_with fail
  refine (HT.out _ HB3.out.bel).mono ?_
  rintro _ w4 ⟨rfl, hb⟩
  have HB4 := Lib.hid (HB3.out.next hb)
  have m0 := below_cell' hb p0
  have m1 := below_cell' hb p1
  clear hb HT HB3 p0 p1
  have s0 := HB4.out.s0
  have s1 := HB4.out.s1
  have t0 := HB4.out.t 0
  have t1 := HB4.out.t 1
  go_wp2
  refine bodyPost_ret (results_cells_tmp rfl _ _ w.heap.size [.int .i64 dm, .string nm] _ rfl (HB4.out.two _ _) Tryz.underlying33 rfl type_info2) rfl ⟨rfl, HB4.out.end _ _⟩

/-- A struct and two numbers come back. -/
theorem results_cells_tmp2 {P : Program} {fn : Func} {p u v : Tmp} {ty : TypeId} (h : fn.results = #[.cell p ty, .tmp u, .tmp v]) (tmps : Array Value) (w : World) (g : Nat) (cs : List Value) (d : TypeDesc)
    (hp : tmps.getD p undef = .pointer (some ⟨g, 0, none⟩)) (hg : ∀ j (h : j < cs.length), w.cell? ⟨g, j, none⟩ = some cs[j])
    (hu : P.underlying ty = some d) (hd : aggD d = true) (hi : (P.info? ty).map (·.size) = some cs.length) :
    (results fn tmps).run P w = .ok (.tuple #[.agg cs.toArray, tmps.getD u undef, tmps.getD v undef]) w := by
  have hp1 : tmps[p]?.getD undef = .pointer (some ⟨g, 0, none⟩) := by simpa using hp
  simp [results, h, hp1, asAddr, run_loadVar_cells w g ty cs d hg hu hd hi]

/-- The places of found: a type, a reference, a method's place. -/
structure FndAt (w w1 : World) (dm : Int) (nm cls n d : ByteArray) : Prop where
  t0 : w1.cell? ⟨w.heap.size, 0, none⟩ = some (.int .i64 dm)
  t1 : w1.cell? ⟨w.heap.size, 1, none⟩ = some (.string nm)
  r0 : w1.cell? ⟨w.heap.size + 1, 0, none⟩ = some (.bool false)
  r1 : w1.cell? ⟨w.heap.size + 1, 1, none⟩ = some (.string cls)
  r2 : w1.cell? ⟨w.heap.size + 1, 2, none⟩ = some (.string n)
  r3 : w1.cell? ⟨w.heap.size + 1, 3, none⟩ = some (.string d)
  s0 : w1.cell? ⟨w.heap.size + 1 + 1, 0, none⟩ = some (.int .i64 0)
  s1 : w1.cell? ⟨w.heap.size + 1 + 1, 1, none⟩ = some (.int .i64 0)
  t : ∀ j, w1.frozen? ⟨w.heap.size + 1 + 1, j, none⟩ = false
  bel : Below w.heap.size w w1
  lt : w.heap.size + 1 + 1 < w1.heap.size
theorem alloc_at {w : World} {q : Nat} (hq : w.heap.size = q) (cs : Array Value) (t : TypeId) {j : Nat} {v : Value} (hv : cs[j]? = some v) : (w.alloc (.cells cs t)).cell? ⟨q, j, none⟩ = some v := by
  subst hq
  exact (World.cell?_alloc_new ..).trans hv
theorem FndAt.start (w : World) (dm : Int) (nm cls n d : ByteArray) : FndAt w (((w.alloc (.cells #[.int .i64 dm, .string nm] 33)).alloc (.cells #[.bool false, .string cls, .string n, .string d] 30)).alloc (.cells #[.int .i64 0, .int .i64 0] 24)) dm nm cls n d := by
  refine ⟨alloc_old (alloc_old (alloc_at rfl _ _ rfl)), alloc_old (alloc_old (alloc_at rfl _ _ rfl)), alloc_old (alloc_at (by simp) _ _ rfl), alloc_old (alloc_at (by simp) _ _ rfl), alloc_old (alloc_at (by simp) _ _ rfl), alloc_old (alloc_at (by simp) _ _ rfl), alloc_at (by simp) _ _ rfl, alloc_at (by simp) _ _ rfl, fun j => ?_, (((Below.refl _ _).alloc (Nat.le_refl _) _).alloc (by simp) _).alloc (by simp; omega) _, by simp⟩
  have := frozen_new ((w.alloc (.cells #[.int .i64 dm, .string nm] 33)).alloc (.cells #[.bool false, .string cls, .string n, .string d] 30)) #[.int .i64 0, .int .i64 0] 24 j
  rw [World.size_alloc, World.size_alloc] at this
  exact this
theorem FndAt.next {w w1 w2 : World} {dm : Int} {nm cls n d : ByteArray} (h : FndAt w w1 dm nm cls n d) (hb : Below w1.heap.size w1 w2) : FndAt w w2 dm nm cls n d :=
  ⟨below_cell' hb h.t0, below_cell' hb h.t1, below_cell' hb h.r0, below_cell' hb h.r1, below_cell' hb h.r2, below_cell' hb h.r3, below_cell' hb h.s0, below_cell' hb h.s1, fun j => (World.frozen?_of_block (w := w1) (a := ⟨w.heap.size + 1 + 1, j, none⟩) (hb.block _ h.lt)).trans (h.t j), h.bel.trans (hb.mono h.bel.size), Nat.lt_of_lt_of_le h.lt hb.size⟩

theorem RFound_class {bw : Nat} {w : World} {cls n d : ByteArray} {hol : Int} {p : Int × Int} (t : TyM)
    (HH0 : ∀ wr, Below w.heap.size w wr → Calls Tryz.prog 23 #[.pointer (some ⟨bw, 0, none⟩), .agg #[.int .i64 t.dims, .string t.name]] wr fun r w' => r = .returned (.tuple #[.int .i64 hol, .int .i64 0]) ∧ Below wr.heap.size wr w')
    (HL0 : ∀ wr, Below w.heap.size w wr → Calls Tryz.prog 82 #[.pointer (some ⟨bw, 0, none⟩), .int .i64 hol, .string n, .string d] wr fun r w' => r = .returned (.tuple #[.agg #[.int .i64 p.1, .int .i64 p.2], .int .i64 0]) ∧ Below wr.heap.size wr w') :
    Calls Tryz.prog 48 #[.pointer (some ⟨bw, 0, none⟩), .agg #[.int .i64 t.dims, .string t.name], .agg #[.bool false, .string cls, .string n, .string d]] w fun r w' => r = .returned (.tuple #[.agg #[.int .i64 p.1, .int .i64 p.2], .int .i64 hol, .int .i64 0]) ∧ Below w.heap.size w w' := by
  have HS := Lib.hid (FndAt.start w t.dims t.name cls n d)
  have HH := Lib.hid (HH0 _ HS.out.bel)
  have HL := Lib.hid HL0
  clear HH0 HL0
  generalize t.dims = dm at *
  generalize t.name = nm at *
  go_enter Tryz.func48, Tryz.ntmps48
  go_wp2_with fail
  refine HH.out.mono ?_
  rintro _ w1 ⟨rfl, hb⟩
  have HB := Lib.hid (HS.out.next hb)
  have HLX := Lib.hid (HL.out w1 HB.out.bel)
  have t0 := HB.out.t0
  have t1 := HB.out.t1
  have r0 := HB.out.r0
  have r1 := HB.out.r1
  have r2 := HB.out.r2
  have r3 := HB.out.r3
  clear hb HH HS HL
  go_wp2_with fail
  refine HLX.out.mono ?_
  rintro _ w2 ⟨rfl, hb⟩
  have HB2 := Lib.hid (HB.out.next hb)
  clear hb HB HLX t0 t1 r0 r1 r2 r3
  have s0 := HB2.out.s0
  have s1 := HB2.out.s1
  have z0 := HB2.out.t 0
  have z1 := HB2.out.t 1
  go_wp2
  have key0 := set2 (v0 := .int .i64 p.1) (v1 := .int .i64 p.2) s0 s1
  have key := set2 (v0 := .int .i64 p.1) (v1 := .int .i64 p.2) key0.1 key0.2
  have hq : w.heap.size ≤ w.heap.size + 1 + 1 := by omega
  have hbb := (((HB2.out.bel.setCell hq (.int .i64 p.1) (p := ⟨w.heap.size + 1 + 1, 0, none⟩)).setCell hq (.int .i64 p.2) (p := ⟨w.heap.size + 1 + 1, 1, none⟩)).setCell hq (.int .i64 p.1) (p := ⟨w.heap.size + 1 + 1, 0, none⟩)).setCell hq (.int .i64 p.2) (p := ⟨w.heap.size + 1 + 1, 1, none⟩)
  refine bodyPost_ret (results_cells_tmp2 rfl _ _ (w.heap.size + 1 + 1) [.int .i64 p.1, .int .i64 p.2] _ rfl (two key.1 key.2) Tryz.underlying24 rfl id_info2) rfl ⟨rfl, hbb⟩

/-- The places of Method: a reference, a method's place. -/
structure MetAt (w w1 : World) (cls n d : ByteArray) : Prop where
  r0 : w1.cell? ⟨w.heap.size, 0, none⟩ = some (.bool false)
  r1 : w1.cell? ⟨w.heap.size, 1, none⟩ = some (.string cls)
  r2 : w1.cell? ⟨w.heap.size, 2, none⟩ = some (.string n)
  r3 : w1.cell? ⟨w.heap.size, 3, none⟩ = some (.string d)
  s0 : w1.cell? ⟨w.heap.size + 1, 0, none⟩ = some (.int .i64 0)
  s1 : w1.cell? ⟨w.heap.size + 1, 1, none⟩ = some (.int .i64 0)
  t : ∀ j, w1.frozen? ⟨w.heap.size + 1, j, none⟩ = false
  bel : Below w.heap.size w w1
  lt : w.heap.size + 1 < w1.heap.size
theorem MetAt.start (w : World) (cls n d : ByteArray) : MetAt w ((w.alloc (.cells #[.bool false, .string cls, .string n, .string d] 30)).alloc (.cells #[.int .i64 0, .int .i64 0] 24)) cls n d := by
  refine ⟨alloc_old (alloc_at rfl _ _ rfl), alloc_old (alloc_at rfl _ _ rfl), alloc_old (alloc_at rfl _ _ rfl), alloc_old (alloc_at rfl _ _ rfl), alloc_at (by simp) _ _ rfl, alloc_at (by simp) _ _ rfl, fun j => ?_, ((Below.refl _ _).alloc (Nat.le_refl _) _).alloc (by simp) _, by simp⟩
  have := frozen_new (w.alloc (.cells #[.bool false, .string cls, .string n, .string d] 30)) #[.int .i64 0, .int .i64 0] 24 j
  rw [World.size_alloc] at this
  exact this
theorem MetAt.next {w w1 w2 : World} {cls n d : ByteArray} (h : MetAt w w1 cls n d) (hb : Below w1.heap.size w1 w2) : MetAt w w2 cls n d :=
  ⟨below_cell' hb h.r0, below_cell' hb h.r1, below_cell' hb h.r2, below_cell' hb h.r3, below_cell' hb h.s0, below_cell' hb h.s1, fun j => (World.frozen?_of_block (w := w1) (a := ⟨w.heap.size + 1, j, none⟩) (hb.block _ h.lt)).trans (h.t j), h.bel.trans (hb.mono h.bel.size), Nat.lt_of_lt_of_le h.lt hb.size⟩

theorem RMethod_ok {bw : Nat} {w : World} {dd : Int} {cls n d : ByteArray} {hol : Int} {p : Int × Int} (t : TyM)
    (HC0 : ∀ wr, Below w.heap.size w wr → Calls Tryz.prog 47 #[.pointer (some ⟨bw, 0, none⟩), .int .i64 dd] wr fun r w' => ∃ (v0 v1 : ByteArray) (ia ma : Option Addr) (il ic ml mc : Nat) (f l : Int), r = .returned (.tuple #[.agg #[.string v0, .string v1, .slice ia il ic, .int .i64 f, .int .i64 l, .slice ma ml mc], .int .i64 0]) ∧ Below wr.heap.size wr w')
    (HR0 : ∀ wr, Below w.heap.size w wr → Calls Tryz.prog 33 #[.agg #[.bool false, .string cls, .string n, .string d]] wr fun r w' => r = .returned (.int .i64 0) ∧ Below wr.heap.size wr w')
    (HT0 : ∀ wr, Below w.heap.size w wr → Calls Tryz.prog 24 #[.pointer (some ⟨bw, 0, none⟩), .int .i64 dd, .string cls] wr fun r w' => r = .returned (.tuple #[.agg #[.int .i64 t.dims, .string t.name], .int .i64 0]) ∧ Below wr.heap.size wr w')
    (HF0 : ∀ wr, Below w.heap.size w wr → Calls Tryz.prog 48 #[.pointer (some ⟨bw, 0, none⟩), .agg #[.int .i64 t.dims, .string t.name], .agg #[.bool false, .string cls, .string n, .string d]] wr fun r w' => r = .returned (.tuple #[.agg #[.int .i64 p.1, .int .i64 p.2], .int .i64 hol, .int .i64 0]) ∧ Below wr.heap.size wr w')
    (HO0 : ∀ wr, Below w.heap.size w wr → Calls Tryz.prog 49 #[.pointer (some ⟨bw, 0, none⟩), .int .i64 dd, .agg #[.int .i64 p.1, .int .i64 p.2], .int .i64 hol] wr fun r w' => r = .returned (.tuple #[.bool true, .int .i64 0]) ∧ Below wr.heap.size wr w') :
    Calls Tryz.prog 22 #[.pointer (some ⟨bw, 0, none⟩), .int .i64 dd, .agg #[.bool false, .string cls, .string n, .string d]] w fun r w' => r = .returned (.tuple #[.agg #[.int .i64 p.1, .int .i64 p.2], .int .i64 0]) ∧ Below w.heap.size w w' := by
  have HS := Lib.hid (MetAt.start w cls n d)
  have HC := Lib.hid (HC0 _ HS.out.bel)
  have HR := Lib.hid HR0
  have HT := Lib.hid HT0
  have HF := Lib.hid HF0
  have HO := Lib.hid HO0
  clear HC0 HR0 HT0 HF0 HO0
  generalize t.dims = dm at *
  generalize t.name = nm at *
  go_enter Tryz.func22, Tryz.ntmps22
  go_wp2_with fail
  refine HC.out.mono ?_
  rintro _ w1 ⟨v0, v1, ia, ma, il, ic, ml, mc, f, l, rfl, hb⟩
  obtain ⟨wx, hwx⟩ : ∃ wx, (w1.alloc (.cells #[.string v0, .string v1, .slice ia il ic, .int .i64 f, .int .i64 l, .slice ma ml mc] 62)) = wx := ⟨_, rfl⟩
  have hbx : Below w1.heap.size w1 wx := by rw [← hwx]; exact (Below.refl _ _).alloc (Nat.le_refl _) _
  have HB1 := Lib.hid ((HS.out.next hb).next hbx)
  have HRX := Lib.hid (HR.out wx HB1.out.bel)
  clear hb hbx HC HS HR
  have r0 := HB1.out.r0
  have r1 := HB1.out.r1
  have r2 := HB1.out.r2
  have r3 := HB1.out.r3
  go_wp2_with fail
  try rw [hwx]
  clear hwx
  refine HRX.out.mono ?_
  rintro _ w2 ⟨rfl, hb⟩
  have HB2 := Lib.hid (HB1.out.next hb)
  have HTX := Lib.hid (HT.out w2 HB2.out.bel)
  clear hb HB1 HRX HT r0 r1 r2 r3
  have r1 := HB2.out.r1
  go_wp2_with fail
  refine HTX.out.mono ?_
  rintro _ w3 ⟨rfl, hb⟩
  obtain ⟨wx, hwx⟩ : ∃ wx, (w3.alloc (.cells #[.int .i64 dm, .string nm] 33)) = wx := ⟨_, rfl⟩
  have hbx : Below w3.heap.size w3 wx := by rw [← hwx]; exact (Below.refl _ _).alloc (Nat.le_refl _) _
  have m0 : wx.cell? ⟨w3.heap.size, 0, none⟩ = some (.int .i64 dm) := by rw [← hwx]; exact alloc_at rfl _ _ rfl
  have m1 : wx.cell? ⟨w3.heap.size, 1, none⟩ = some (.string nm) := by rw [← hwx]; exact alloc_at rfl _ _ rfl
  have HB3 := Lib.hid ((HB2.out.next hb).next hbx)
  have HFX := Lib.hid (HF.out wx HB3.out.bel)
  clear hb hbx HB2 HTX HF r1
  have r0 := HB3.out.r0
  have r1 := HB3.out.r1
  have r2 := HB3.out.r2
  have r3 := HB3.out.r3
  go_wp2_with fail
  try rw [hwx]
  clear hwx
  refine HFX.out.mono ?_
  rintro _ w4 ⟨rfl, hb⟩
  clear m0 m1 r0 r1 r2 r3
  obtain ⟨wx, hwx⟩ : ∃ wx, (w4.alloc (.cells #[.int .i64 p.1, .int .i64 p.2] 24)) = wx := ⟨_, rfl⟩
  have hbx : Below w4.heap.size w4 wx := by rw [← hwx]; exact (Below.refl _ _).alloc (Nat.le_refl _) _
  have m0 : wx.cell? ⟨w4.heap.size, 0, none⟩ = some (.int .i64 p.1) := by rw [← hwx]; exact alloc_at rfl _ _ rfl
  have m1 : wx.cell? ⟨w4.heap.size, 1, none⟩ = some (.int .i64 p.2) := by rw [← hwx]; exact alloc_at rfl _ _ rfl
  have HB4 := Lib.hid ((HB3.out.next hb).next hbx)
  have HOX := Lib.hid (HO.out wx HB4.out.bel)
  clear hb hbx HB3 HFX HO
  go_wp2_with fail
  try rw [hwx]
  clear hwx
  refine HOX.out.mono ?_
  rintro _ w5 ⟨rfl, hb⟩
  have HB5 := Lib.hid (HB4.out.next hb)
  have k0 := below_cell' hb m0
  have k1 := below_cell' hb m1
  clear hb HB4 HOX m0 m1
  have s0 := HB5.out.s0
  have s1 := HB5.out.s1
  have z0 := HB5.out.t 0
  have z1 := HB5.out.t 1
  go_wp2
  have key := set2 (v0 := .int .i64 p.1) (v1 := .int .i64 p.2) s0 s1
  refine bodyPost_ret (results_cells_tmp rfl _ _ (w.heap.size + 1) [.int .i64 p.1, .int .i64 p.2] _ rfl (two key.1 key.2) Tryz.underlying24 rfl id_info2) rfl ⟨rfl, ?_⟩
  exact (HB5.out.bel.setCell (Nat.le_succ _) _).setCell (Nat.le_succ _) _
end Go.Proofs.YtiiebakblkpkeaaGreatDoor.Hi
/- What a new world says of Object. -/
set_option maxRecDepth 100000
set_option maxHeartbeats 1000000
set_option linter.unusedVariables false
set_option linter.unusedSimpArgs false
namespace Go.Proofs.YtiiebakblkpkeaaGreatDoor.Hi
open Go.RowKit Bs

def objN : ByteArray := ⟨#[79, 98, 106, 101, 99, 116]⟩
def idN : ByteArray := ⟨#[105, 100]⟩
def idD : ByteArray := ⟨#[40, 41, 73]⟩
def objT : TyM := ⟨0, objN⟩
theorem start_lt : 0 < startM.length := by rw [show startM.length = 3 from startAt_len 2]; omega
theorem s_byName : byNameM startM objN = (((0 : Nat) : Int), 0) := by decide
theorem s_nameIx : (nameIx startM objN).isNone = false := by decide
theorem s_valid : Lf.validB objN.data.toList = true := by decide
theorem s_loaded : loadedE startM objT = 0 := by
  unfold loadedE
  have h1 : tyOk objT = true := by
    unfold tyOk objT
    rw [s_valid]
    simp
  rw [h1, if_pos rfl]
  have h2 : (nameIx startM objT.name).isNone = false := s_nameIx
  rw [h2, Bool.and_false]
  rfl
theorem s_empty : objT.name.toList.isEmpty = false := by
  rw [ByteArray.toList_eq]
  rfl
theorem s_open : classOpenM startM 0 0 = true := by
  unfold classOpenM
  have : (bits .and .i64 (clsAt startM 0).flags 1 != 0) = true := by decide
  rw [this, Bool.true_or]
theorem s_ref : Pr.refTyM [79, 98, 106, 101, 99, 116] = ⟨0, [79, 98, 106, 101, 99, 116], 0⟩ := by decide
theorem s_desc : (Pr.descM [40, 41, 73]).err = 0 := by decide
theorem s_member : Lf.memberB (Pr.ba [105, 100]) = true := by
  unfold Lf.memberB
  have h1 : Lf.partB (Pr.ba [105, 100]).data.toList = true := by decide
  have h2 : decide ((Pr.ba [105, 100]).size ≤ 60) = true := by decide
  rw [h1, h2, Bool.and_true, Bool.or_true]
theorem s_form : Pr.refB [79, 98, 106, 101, 99, 116] [105, 100] [40, 41, 73] = true := by
  unfold Pr.refB
  rw [s_ref, s_member]
  have := s_desc
  simp [this]
theorem s_iface : isIfaceM startM ((0 : Nat) : Int) = false := by decide
theorem s_mEq (n d : ByteArray) : Pr.mEq n d = fun x => decide (x.name = n) && decide (x.desc = d) := by
  funext x
  unfold Pr.mEq
  rw [str_eq, str_eq]
theorem s_find : findH startM ((0 : Nat) : Int) idN idD = (1, 0) := by
  unfold findH Pr.findM
  rw [s_mEq]
  decide
theorem s_ch : ch startM 0 = [0] := by decide
theorem s_lookup : lookupM startM 0 idN idD = ((((0 : Nat) : Int), ((1 : Nat) : Int)), 0) := by
  have h1 : chainR startM 0 idN idD = ((0, 1), 0) := by
    unfold chainR
    rw [s_ch]
    unfold firstM
    rw [show findH startM (0 : Int) idN idD = (1, 0) from s_find]
    rfl
  unfold lookupM firstR
  rw [h1]
  rfl
theorem s_meths : 1 < (startM[0]'start_lt).c.meths.length := by decide
theorem s_flags : openM ((startM[0]'start_lt).c.meths[1]'s_meths).flags = 1 := by decide

/-- A new world's Object, by its text. -/
theorem start_class {B bw : Nat} {w0 w : World} (h : Built B bw w0 w startM) (he : Lf.Env w) :
    Calls Tryz.prog 24 #[.pointer (some ⟨bw, 0, none⟩), .int .i64 (0 : Nat), .string objN] w fun r w' => r = .returned (.tuple #[.agg #[.int .i64 0, .string objN], .int .i64 0]) ∧ Below w.heap.size w w' :=
  RClass_ok objT (fun wr hr => Class2 (h.next hr) start_lt)
    (fun wr hr => (Pr.ParseRef [79, 98, 106, 101, 99, 116] wr (by decide) (he.below hr)).mono fun r w' ⟨h1, h2⟩ => ⟨by rw [h1, s_ref]; rfl, h2⟩)
    (fun wr hr => (Loaded (h.next hr) objT (by decide) (he.below hr)).mono fun r w' ⟨h1, h2⟩ => ⟨by rw [h1, s_loaded], h2⟩)
    (fun wr hr => (TypeOpen_class (h.next hr) start_lt start_lt objT (by decide) (he.below hr) s_loaded s_empty s_byName).mono fun r w' ⟨h1, h2⟩ => ⟨by rw [h1, s_open], h2⟩)
theorem start_found {B bw : Nat} {w0 w : World} (h : Built B bw w0 w startM) (he : Lf.Env w) :
    Calls Tryz.prog 48 #[.pointer (some ⟨bw, 0, none⟩), .agg #[.int .i64 0, .string objN], .agg #[.bool false, .string objN, .string idN, .string idD]] w fun r w' => r = .returned (.tuple #[.agg #[.int .i64 (0 : Nat), .int .i64 (1 : Nat)], .int .i64 (0 : Nat), .int .i64 0]) ∧ Below w.heap.size w w' :=
  RFound_class (p := (((0 : Nat) : Int), ((1 : Nat) : Int))) objT
    (fun wr hr => (Holder_class (h.next hr) objT (by decide) (he.below hr) s_loaded rfl s_empty).mono fun r w' ⟨h1, h2⟩ => ⟨by rw [h1]; show Ending.returned (.tuple #[.int .i64 (byNameM startM objN).1, .int .i64 (byNameM startM objN).2]) = _; rw [s_byName], h2⟩)
    (fun wr hr => (Lookup_in (h.next hr) start_lt s_iface idN idD).mono fun r w' ⟨h1, h2⟩ => ⟨by rw [h1, s_lookup]; rfl, h2⟩)
theorem start_method {B bw : Nat} {w0 w : World} (h : Built B bw w0 w startM) (he : Lf.Env w) :
    Calls Tryz.prog 22 #[.pointer (some ⟨bw, 0, none⟩), .int .i64 (0 : Nat), .agg #[.bool false, .string objN, .string idN, .string idD]] w fun r w' => r = .returned (.tuple #[.agg #[.int .i64 (0 : Nat), .int .i64 (1 : Nat)], .int .i64 0]) ∧ Below w.heap.size w w' :=
  RMethod_ok (hol := ((0 : Nat) : Int)) (p := (((0 : Nat) : Int), ((1 : Nat) : Int))) objT (fun wr hr => Class2 (h.next hr) start_lt)
    (fun wr hr => (Pr.RefCheck false [79, 98, 106, 101, 99, 116] [105, 100] [40, 41, 73] wr (by decide) (by decide) (by decide) (he.below hr)).mono fun r w' ⟨h1, h2⟩ => ⟨by rw [h1, s_form]; rfl, h2⟩)
    (fun wr hr => start_class (h.next hr) (he.below hr))
    (fun wr hr => start_found (h.next hr) (he.below hr))
    (fun wr hr => MethodOpen_own (h.next hr) start_lt start_lt s_meths s_flags)

end Go.Proofs.YtiiebakblkpkeaaGreatDoor.Hi
