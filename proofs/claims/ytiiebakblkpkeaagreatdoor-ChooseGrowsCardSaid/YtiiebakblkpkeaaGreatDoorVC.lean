/- Resolving in general: what the answers are (plain). -/
import Derived.Test.YtiiebakblkpkeaaGreatDoorVB
set_option maxRecDepth 100000
set_option maxHeartbeats 1000000
set_option linter.unusedVariables false
set_option linter.unusedSimpArgs false
namespace Go.Proofs.YtiiebakblkpkeaaGreatDoor.Hi
open Go.RowKit Bs

/-- The type that a reference's text writes; the error. -/
def refT (s : ByteArray) : TyM := ⟨(Pr.refTyM s.data.toList).dims, Pr.ba (Pr.refTyM s.data.toList).name⟩
def refE (s : ByteArray) : Int := (Pr.refTyM s.data.toList).err
theorem tail_name (l : List UInt8) (h : l.length ≤ 2000) : (Pr.tail l).name.length ≤ 2000 := by
  unfold Pr.tail
  have key : ∀ q : List UInt8, (Pr.oneTail q).name.length ≤ q.length := by
    intro q
    match q with
    | [] => exact Nat.le_refl _
    | x :: r =>
      rw [Pr.oneTail_cons]
      split
      · exact Nat.zero_le _
      · split
        · have := Pr.cut_le r [59]
          show (Lib.cut r [59]).1.length ≤ _
          simp
          omega
        · exact Nat.zero_le _
  refine Nat.le_trans (key _) ?_
  simp
  omega
theorem refT_ok (s : ByteArray) (h : refE s = 0) : (refT s).name.size ≤ 2000 ∧ 0 ≤ (refT s).dims ∧ ((refT s).dims = 0 → (refT s).name.toList.isEmpty = false) := by
  unfold refE at h
  unfold refT
  generalize s.data.toList = l at *
  unfold Pr.refTyM at *
  by_cases hp : l.head? = some 91
  · rw [if_pos hp] at h ⊢
    unfold Pr.parseM at *
    by_cases h1 : 2000 < l.length
    · rw [if_pos h1] at h
      exact absurd h (by decide)
    rw [if_neg h1] at h ⊢
    by_cases h2 : (!(Pr.tail l).ok || !(Pr.tail l).rest.isEmpty) = true
    · rw [if_pos h2] at h
      exact absurd h (by decide)
    rw [if_neg h2] at h ⊢
    by_cases h3 : 255 < Pr.brackets l
    · rw [if_pos h3] at h
      exact absurd h (by decide)
    rw [if_neg h3] at h ⊢
    refine ⟨?_, Int.natCast_nonneg _, fun h0 => ?_⟩
    · show (Pr.ba (Pr.tail l).name).size ≤ 2000
      rw [Pr.ba_size]
      exact tail_name l (by omega)
    · exfalso
      obtain ⟨r, rfl⟩ : ∃ r, l = 91 :: r := by
        cases l with
        | nil => cases hp
        | cons x r =>
          obtain rfl : x = 91 := by simpa using hp
          exact ⟨r, rfl⟩
      have h0 : ((Pr.brackets (91 :: r) : Nat) : Int) = 0 := h0
      rw [Pr.brackets_cons, if_pos rfl] at h0
      omega
  · rw [if_neg hp] at h ⊢
    by_cases h1 : 2000 < l.length
    · rw [if_pos h1] at h
      exact absurd h (by decide)
    rw [if_neg h1] at h ⊢
    by_cases h2 : Lf.validB l = true
    · rw [if_pos h2]
      refine ⟨?_, Int.le_refl _, fun _ => ?_⟩
      · show (Pr.ba l).size ≤ 2000
        rw [Pr.ba_size]
        omega
      · show (Pr.ba l).toList.isEmpty = false
        rw [Pr.ba_toList]
        cases l with
        | nil => exact absurd h2 (by decide)
        | cons x r => rfl
    · rw [if_neg h2] at h
      exact absurd h (by decide)

/-- Is a type open to a class? -/
def typeOpenM (m : List EntM) (i : Nat) (t : TyM) : Bool := t.name.toList.isEmpty || classOpenM m i (byNameM m t.name).1.toNat
/-- The type that a text names, from a class. -/
def classR (m : List EntM) (i : Nat) (s : ByteArray) : TyM × Int :=
  if refE s ≠ 0 then (zeroT, 4) else if loadedE m (refT s) ≠ 0 then (zeroT, loadedE m (refT s)) else if typeOpenM m i (refT s) = true then (refT s, 0) else (zeroT, 22)
/-- The flags of a method. -/
def flagsAt (m : List EntM) (p : Int × Int) : Int := (((entAt m p.1).bind fun e => e.c.meths[p.2.toNat]?).map (·.flags)).getD 0
theorem flagsAt_at {m : List EntM} {a b : Nat} (ha : a < m.length) (hb : b < m[a].c.meths.length) : flagsAt m ((a : Int), (b : Int)) = m[a].c.meths[b].flags := by
  unfold flagsAt
  simp only [entAt_nat ha, Option.bind_some, Int.toNat_natCast]
  rw [List.getElem?_eq_getElem hb]
  rfl
def noneR : (Int × Int) × Int := ((0, 0), 6)
/-- A public instance method of the top class. -/
def objR (m : List EntM) (n d : ByteArray) : (Int × Int) × Int :=
  if (findH m ((0 : Nat) : Int) n d).2 = 0 then (if (bits .and .i64 (flagsAt m (((0 : Nat) : Int), (findH m ((0 : Nat) : Int) n d).1)) 1 == 0) = true then noneR else if (bits .and .i64 (flagsAt m (((0 : Nat) : Int), (findH m ((0 : Nat) : Int) n d).1)) 8 != 0) = true then noneR else ((((0 : Nat) : Int), (findH m ((0 : Nat) : Int) n d).1), 0)) else noneR
def lookM (m : List EntM) (c : Nat) (n d : ByteArray) : (Int × Int) × Int := if isIfaceM m c = true then ((0, 0), 23) else lookupM m c n d
def lookIM (m : List EntM) (c : Nat) (n d : ByteArray) : (Int × Int) × Int := if isIfaceM m c = true then firstR [ownR m c n d, objR m n d, oneM m c n d, someM m c n d] else ((0, 0), 23)
/-- The class whose methods a type has. -/
def holN (m : List EntM) (t : TyM) : Nat := if 0 < t.dims then 0 else (byNameM m t.name).1.toNat
/-- The method that a reference names, without access. -/
def foundM (m : List EntM) (t : TyM) (r : RefM) : (Int × Int) × Int :=
  if r.iface = true then (if 0 < t.dims then ((0, 0), 23) else lookIM m (holN m t) r.name r.desc) else lookM m (holN m t) r.name r.desc
def refOk (r : RefM) : Bool := Pr.refB r.cls.data.toList r.name.data.toList r.desc.data.toList
def openR (m : List EntM) (i : Nat) (r : RefM) : Bool := moM m i (foundM m (refT r.cls) r).1.1.toNat (flagsAt m (foundM m (refT r.cls) r).1) (holN m (refT r.cls))
/-- The method that a reference names, from a class. -/
def methodR (m : List EntM) (i : Nat) (r : RefM) : (Int × Int) × Int :=
  if Pr.formE (refOk r) ≠ 0 then ((0, 0), Pr.formE (refOk r)) else if (classR m i r.cls).2 ≠ 0 then ((0, 0), (classR m i r.cls).2) else if (foundM m (refT r.cls) r).2 ≠ 0 then ((0, 0), (foundM m (refT r.cls) r).2) else if openR m i r = true then ((foundM m (refT r.cls) r).1, 0) else ((0, 0), 22)

theorem loaded_name {m : List EntM} {t : TyM} (h : loadedE m t = 0) (hE : t.name.toList.isEmpty = false) : ∃ j : Nat, j < m.length ∧ byNameM m t.name = ((j : Int), 0) := by
  unfold loadedE at h
  by_cases hk : tyOk t = true
  · rw [if_pos hk, hE] at h
    cases hn : nameIx m t.name with
    | none =>
      rw [hn] at h
      exact absurd h (by decide)
    | some j => exact ⟨j, nameIx_lt hn, by unfold byNameM; rw [hn]⟩
  · rw [if_neg hk] at h
    exact absurd h (by decide)
theorem class_ok {m : List EntM} {i : Nat} {s : ByteArray} (h : (classR m i s).2 = 0) : refE s = 0 ∧ loadedE m (refT s) = 0 ∧ typeOpenM m i (refT s) = true ∧ classR m i s = (refT s, 0) := by
  unfold classR at *
  by_cases h1 : refE s ≠ 0
  · rw [if_pos h1] at h
    exact absurd h (by decide)
  rw [if_neg h1] at h ⊢
  by_cases h2 : loadedE m (refT s) ≠ 0
  · rw [if_pos h2] at h
    exact absurd h h2
  rw [if_neg h2] at h ⊢
  by_cases h3 : typeOpenM m i (refT s) = true
  · rw [if_pos h3]
    exact ⟨by omega, by omega, h3, rfl⟩
  · rw [if_neg h3] at h
    exact absurd h (by decide)
theorem holN_lt {m : List EntM} (h0 : 0 < m.length) {s : ByteArray} (h : refE s = 0) (hl : loadedE m (refT s) = 0) : holN m (refT s) < m.length := by
  unfold holN
  by_cases hd : 0 < (refT s).dims
  · rw [if_pos hd]; exact h0
  · rw [if_neg hd]
    obtain ⟨_, h1, h2⟩ := refT_ok s h
    obtain ⟨j, hj, e⟩ := loaded_name hl (h2 (by omega))
    rw [e]
    simpa using hj

/-- A method of a name and a descriptor that a class has, of itself or from above. -/
def HasM (m : List EntM) (c : Nat) (n d : ByteArray) (p : Int × Int) : Prop := ∃ (a b : Nat) (ha : a < m.length) (hb : b < m[a].c.meths.length), p = ((a : Int), (b : Int)) ∧ Pr.mEq n d m[a].c.meths[b] = true ∧ extM m c a = true
theorem firstR_ok : ∀ {l : List ((Int × Int) × Int)}, (firstR l).2 = 0 → ∃ x ∈ l, x.2 = 0 ∧ (firstR l).1 = x.1
  | [], h => absurd h (by decide)
  | x :: r, h => by
    unfold firstR at *
    by_cases h0 : x.2 = 0
    · rw [if_pos h0]
      exact ⟨x, List.mem_cons_self .., h0, rfl⟩
    · rw [if_neg h0] at h ⊢
      obtain ⟨y, hy, e1, e2⟩ := firstR_ok h
      exact ⟨y, List.mem_cons_of_mem _ hy, e1, e2⟩
theorem firstR_none : ∀ {l : List ((Int × Int) × Int)}, (∀ x ∈ l, x.2 ≠ 0) → firstR l = ((0, 0), 21)
  | [], _ => rfl
  | x :: r, h => by
    unfold firstR
    rw [if_neg (h x (List.mem_cons_self ..))]
    exact firstR_none fun y hy => h y (List.mem_cons_of_mem _ hy)
theorem firstR_at : ∀ {l : List ((Int × Int) × Int)} {k : Nat} {x : (Int × Int) × Int}, l[k]? = some x → (∀ j y, j < k → l[j]? = some y → y.2 ≠ 0) → x.2 = 0 → firstR l = (x.1, 0)
  | [], k, x, h, _, _ => by simp at h
  | z :: r, 0, x, h, _, h0 => by
    obtain rfl : z = x := by simpa using h
    unfold firstR
    rw [if_pos h0]
  | z :: r, k + 1, x, h, hp, h0 => by
    unfold firstR
    rw [if_neg (hp 0 z (by omega) rfl)]
    exact firstR_at (by simpa using h) (fun j y hj hy => hp (j + 1) y (by omega) (by simpa using hy)) h0
theorem firstM_ok {m : List EntM} {n d : ByteArray} : ∀ {l : List Int}, (firstM m n d l).2 = 0 → ∃ k ∈ l, (findH m k n d).2 = 0 ∧ (firstM m n d l).1 = (k, (findH m k n d).1)
  | [], h => absurd (show (6 : Int) = 0 from h) (by decide)
  | k :: r, h => by
    unfold firstM at *
    by_cases h0 : (findH m k n d).2 = 0
    · rw [if_pos h0]
      exact ⟨k, List.mem_cons_self .., h0, rfl⟩
    · rw [if_neg h0] at h ⊢
      obtain ⟨y, hy, e1, e2⟩ := firstM_ok h
      exact ⟨y, List.mem_cons_of_mem _ hy, e1, e2⟩

theorem has_own {m : List EntM} {c k : Nat} (hk : k < m.length) (he : extM m c k = true) {n d : ByteArray} (h : (findH m (k : Int) n d).2 = 0) : HasM m c n d ((k : Int), (findH m (k : Int) n d).1) := by
  obtain ⟨b, hb, e, hq⟩ := findH_ok hk h
  exact ⟨k, b, hk, hb, by rw [e], hq, he⟩
section
variable {m : List EntM} (hw : WFm m) (ho : OrdM m)
include hw ho
theorem has_chain {c : Nat} (hc : c < m.length) {n d : ByteArray} (h : (chainR m c n d).2 = 0) : HasM m c n d (chainR m c n d).1 := by
  unfold chainR at *
  obtain ⟨k, hk, h0, e⟩ := firstM_ok h
  obtain ⟨y, rfl, _, hy, _⟩ := ch_mem hw hc k hk
  rw [e]
  exact has_own hy ((ext_iff hw ho hc hy).2 (.inl hk)) h0
theorem has_cand {c : Nat} (hc : c < m.length) {n d : ByteArray} {p : Int × Int} (hp : p ∈ candM m c n d) : HasM m c n d p := by
  obtain ⟨y, k, hy, hk, rfl, hyc, hq, _⟩ := cand_mem hw ho hc hp
  exact ⟨y, k, hy, hk, rfl, hq, (ext_iff hw ho hc hy).2 (.inr hyc)⟩
theorem has_look {c : Nat} (hc : c < m.length) {n d : ByteArray} (h : (lookM m c n d).2 = 0) : HasM m c n d (lookM m c n d).1 ∧ isIfaceM m c = false := by
  unfold lookM at *
  by_cases hi : isIfaceM m c = true
  · rw [if_pos hi] at h
    exact absurd h (by decide)
  · rw [if_neg hi] at h ⊢
    unfold lookupM at *
    obtain ⟨x, hx, h0, e⟩ := firstR_ok h
    rw [e]
    refine ⟨?_, by simpa using hi⟩
    simp only [List.mem_cons, List.not_mem_nil, or_false] at hx
    rcases hx with rfl | rfl | rfl
    · exact has_chain hw ho hc h0
    · exact has_cand hw ho hc (oneM_ok h0)
    · exact has_cand hw ho hc (someM_ok h0)
theorem has_obj {c : Nat} (hc : c < m.length) {n d : ByteArray} (h : (objR m n d).2 = 0) : HasM m c n d (objR m n d).1 := by
  unfold objR at *
  by_cases h0 : (findH m ((0 : Nat) : Int) n d).2 = 0
  · rw [if_pos h0] at h ⊢
    split at h
    · exact absurd h (by decide)
    · next h1 =>
      rw [if_neg h1]
      split at h
      · exact absurd h (by decide)
      · next h2 =>
        rw [if_neg h2]
        exact has_own ho.root.1 (ext_root hw ho hc) h0
  · rw [if_neg h0] at h
    exact absurd h (by decide)
theorem has_lookI {c : Nat} (hc : c < m.length) {n d : ByteArray} (h : (lookIM m c n d).2 = 0) : HasM m c n d (lookIM m c n d).1 ∧ isIfaceM m c = true := by
  unfold lookIM at *
  by_cases hi : isIfaceM m c = true
  · rw [if_pos hi] at h ⊢
    obtain ⟨x, hx, h0, e⟩ := firstR_ok h
    rw [e]
    refine ⟨?_, hi⟩
    simp only [List.mem_cons, List.not_mem_nil, or_false] at hx
    rcases hx with rfl | rfl | rfl | rfl
    · exact has_own hc (ext_refl hw ho hc) h0
    · exact has_obj hw ho hc h0
    · exact has_cand hw ho hc (oneM_ok h0)
    · exact has_cand hw ho hc (someM_ok h0)
  · rw [if_neg hi] at h
    exact absurd h (by decide)
theorem has_found {t : TyM} {r : RefM} (hc : holN m t < m.length) (h : (foundM m t r).2 = 0) : HasM m (holN m t) r.name r.desc (foundM m t r).1 ∧ (¬ 0 < t.dims → isIfaceM m (holN m t) = r.iface) := by
  unfold foundM at *
  cases hi : r.iface
  · rw [hi, if_neg (by decide)] at h
    rw [if_neg (by decide)]
    obtain ⟨h1, h2⟩ := has_look hw ho hc h
    exact ⟨h1, fun _ => h2⟩
  · rw [hi, if_pos rfl] at h
    rw [if_pos rfl]
    by_cases hd : 0 < t.dims
    · rw [if_pos hd] at h
      exact absurd h (by decide)
    · rw [if_neg hd] at h ⊢
      obtain ⟨h1, h2⟩ := has_lookI hw ho hc h
      exact ⟨h1, fun _ => h2⟩
end
theorem method_ok {m : List EntM} {i : Nat} {r : RefM} (h : (methodR m i r).2 = 0) : (classR m i r.cls).2 = 0 ∧ (methodR m i r).1 = (foundM m (refT r.cls) r).1 ∧ (foundM m (refT r.cls) r).2 = 0 ∧ openR m i r = true := by
  unfold methodR at *
  by_cases h1 : Pr.formE (refOk r) ≠ 0
  · rw [if_pos h1] at h
    exact absurd h h1
  rw [if_neg h1] at h ⊢
  by_cases h2 : (classR m i r.cls).2 ≠ 0
  · rw [if_pos h2] at h
    exact absurd h h2
  rw [if_neg h2] at h ⊢
  by_cases h3 : (foundM m (refT r.cls) r).2 ≠ 0
  · rw [if_pos h3] at h
    exact absurd h h3
  rw [if_neg h3] at h ⊢
  by_cases h4 : openR m i r = true
  · rw [if_pos h4]
    exact ⟨by omega, rfl, by omega, h4⟩
  · rw [if_neg h4] at h
    exact absurd h (by decide)
theorem method_bad {m : List EntM} {i : Nat} {r : RefM} (h : (methodR m i r).2 ≠ 0) : (methodR m i r).1 = (0, 0) ∧ ((classR m i r.cls).2 = 0 ∨ (methodR m i r).2 = 1 ∨ (methodR m i r).2 = (classR m i r.cls).2) := by
  unfold methodR at *
  by_cases h1 : Pr.formE (refOk r) ≠ 0
  · rw [if_pos h1]
    refine ⟨rfl, .inr (.inl ?_)⟩
    unfold Pr.formE at *
    split at h1
    · exact absurd rfl h1
    · next h => exact if_neg h
  rw [if_neg h1] at h ⊢
  by_cases h2 : (classR m i r.cls).2 ≠ 0
  · rw [if_pos h2]
    exact ⟨rfl, .inr (.inr rfl)⟩
  rw [if_neg h2] at h ⊢
  refine ⟨?_, .inl (by omega)⟩
  by_cases h3 : (foundM m (refT r.cls) r).2 ≠ 0
  · rw [if_pos h3]
  rw [if_neg h3] at h ⊢
  by_cases h4 : openR m i r = true
  · rw [if_pos h4] at h
    exact absurd rfl h
  · rw [if_neg h4]
end Go.Proofs.YtiiebakblkpkeaaGreatDoor.Hi
/- Resolving in general: a type's openness, its holder, the roads of an interface; what a class that is none answers. -/
set_option maxRecDepth 100000
set_option maxHeartbeats 1000000
set_option linter.unusedVariables false
set_option linter.unusedSimpArgs false
namespace Go.Proofs.YtiiebakblkpkeaaGreatDoor.Hi
open Go.RowKit Bs

theorem TypeOpen_none {B bw : Nat} {w0 w : World} {m : List EntM} (h : Built B bw w0 w m) {i : Nat} (hi : i < m.length) (t : TyM) (hs : t.name.size ≤ maxLen) (he : Lf.Env w) (hl : loadedE m t = 0) (hE : t.name.toList.isEmpty = true) :
    Calls Tryz.prog 53 #[.pointer (some ⟨bw, 0, none⟩), .int .i64 i, .agg #[.int .i64 t.dims, .string t.name]] w fun r w' => r = .returned (.tuple #[.bool true, .int .i64 0]) ∧ Below w.heap.size w w' := by
  have hb : Below w.heap.size w (w.alloc (.cells #[.int .i64 t.dims, .string t.name] 33)) := (Below.refl _ _).alloc (Nat.le_refl _) _
  have HB := Lib.hid hb
  have H1 := Lib.hid (HomeOf2 (h.next hb) hi)
  have HL := Lib.hid (fun wr (hr : Below w.heap.size w wr) => Loaded (h.next hr) t hs (he.below hr))
  rw [hl] at HL
  have hE' : (!t.name.toList.isEmpty) = false := by rw [hE]; rfl
  have q0 : (w.alloc (.cells #[.int .i64 t.dims, .string t.name] 33)).cell? ⟨w.heap.size, 0, none⟩ = some (.int .i64 t.dims) := World.cell?_alloc_new ..
  have q1 : (w.alloc (.cells #[.int .i64 t.dims, .string t.name] 33)).cell? ⟨w.heap.size, 1, none⟩ = some (.string t.name) := World.cell?_alloc_new ..
  unfold TyM.val at *
  clear h he hl hb hs
  generalize m[i].c = c at *
  generalize pkgM c.name = pc at *
  generalize t.dims = dm at *
  generalize t.name = nm at *
  go_enter Tryz.func53, Tryz.ntmps53
  go_wp2_with fail
  refine H1.out.mono ?_
  rintro _ w1 ⟨ia, ma, il, ic, ml, mc, rfl, hb⟩
  obtain ⟨wx, hwx⟩ : ∃ wx, ((w1.alloc (.cells #[.int .i64 c.loader, .string pc] 141)).alloc (.cells #[.string c.name, .string c.super, .slice ia il ic, .int .i64 c.flags, .int .i64 c.loader, .slice ma ml mc] 62)) = wx := ⟨_, rfl⟩
  have hbx : Below w1.heap.size w1 wx := by rw [← hwx]; exact ((Below.refl _ _).alloc (Nat.le_refl _) _).alloc (by simp) _
  have k0 := below_cell' hbx (below_cell' hb q0)
  have k1 := below_cell' hbx (below_cell' hb q1)
  have HBX : Hid (Below w.heap.size w wx) := Lib.hid ((HB.out.trans (hb.mono HB.out.size)).trans (hbx.mono (Nat.le_trans HB.out.size hb.size)))
  have HLX := Lib.hid (HL.out wx HBX.out)
  clear hb hbx q0 q1 HB H1 HL
  go_wp2_with fail
  try rw [hwx]
  clear hwx
  refine HLX.out.mono ?_
  rintro _ w2 ⟨rfl, hb⟩
  have q0 := below_cell' hb k0
  have q1 := below_cell' hb k1
  have HB2 := Lib.hid (HBX.out.trans (hb.mono HBX.out.size))
  clear hb k0 k1 HLX HBX
  go_wp2
  go_ret2
  exact ⟨rfl, HB2.out⟩
theorem TypeOpen_any {B bw : Nat} {w0 w : World} {m : List EntM} (h : Built B bw w0 w m) {i : Nat} (hi : i < m.length) (t : TyM) (hs : t.name.size ≤ maxLen) (he : Lf.Env w) (hl : loadedE m t = 0) :
    Calls Tryz.prog 53 #[.pointer (some ⟨bw, 0, none⟩), .int .i64 i, .agg #[.int .i64 t.dims, .string t.name]] w fun r w' => r = .returned (.tuple #[.bool (typeOpenM m i t), .int .i64 0]) ∧ Below w.heap.size w w' := by
  cases hE : t.name.toList.isEmpty
  · obtain ⟨j, hj, hn⟩ := loaded_name hl hE
    have e : typeOpenM m i t = classOpenM m i j := by unfold typeOpenM; rw [hE, hn, Bool.false_or, Int.toNat_natCast]
    rw [e]
    exact TypeOpen_class h hi hj t hs he hl hE hn
  · have e : typeOpenM m i t = true := by unfold typeOpenM; rw [hE, Bool.true_or]
    rw [e]
    exact TypeOpen_none h hi t hs he hl hE

theorem Holder_arr {B bw : Nat} {w0 w : World} {m : List EntM} (h : Built B bw w0 w m) (t : TyM) (hs : t.name.size ≤ maxLen) (he : Lf.Env w) (hl : loadedE m t = 0) (hd : 0 < t.dims) :
    Calls Tryz.prog 23 #[.pointer (some ⟨bw, 0, none⟩), t.val] w fun e w' => e = .returned (.tuple #[.int .i64 (0 : Nat), .int .i64 0]) ∧ Below w.heap.size w w' := by
  have hb : Below w.heap.size w (w.alloc (.cells #[.int .i64 t.dims, .string t.name] 33)) := (Below.refl _ _).alloc (Nat.le_refl _) _
  have HB := Lib.hid hb
  have HT := Lib.hid (Loaded (h.next hb) t hs (he.below hb))
  rw [hl] at HT
  have HI := Lib.hid (fun wr => IsInt t wr)
  have hi : isIntM t = false := by
    unfold isIntM
    have : (t.dims == 0) = false := by simp; omega
    rw [this, Bool.false_and]
  rw [hi] at HI
  have hd' : decide (0 < t.dims) = true := decide_eq_true hd
  have q0 : (w.alloc (.cells #[.int .i64 t.dims, .string t.name] 33)).cell? ⟨w.heap.size, 0, none⟩ = some (.int .i64 t.dims) := World.cell?_alloc_new ..
  have q1 : (w.alloc (.cells #[.int .i64 t.dims, .string t.name] 33)).cell? ⟨w.heap.size, 1, none⟩ = some (.string t.name) := World.cell?_alloc_new ..
  unfold TyM.val at *
  clear hb he h hl hi
  generalize t.name = nm at *
  generalize t.dims = dm at *
  go_enter Tryz.func23, Tryz.ntmps23
  go_wp2_with fail
  refine HT.out.mono ?_
  rintro e w1 ⟨rfl, hb1⟩
  have p0 := below_cell' hb1 q0
  have p1 := below_cell' hb1 q1
  have HB1 : Hid (Below w.heap.size w w1) := Lib.hid (HB.out.trans (hb1.mono (by simp)))
  clear hb1 HT q0 q1
  go_wp2_with fail
  refine (HI.out _).mono ?_
  rintro e w2 ⟨rfl, hb2⟩
  have q0 := below_cell' hb2 p0
  have q1 := below_cell' hb2 p1
  have HB2 : Hid (Below w.heap.size w w2) := Lib.hid (HB1.out.trans (hb2.mono HB1.out.size))
  clear hb2 HI p0 p1
  go_wp2
  go_ret2
  exact ⟨rfl, HB2.out⟩
theorem Holder_any {B bw : Nat} {w0 w : World} {m : List EntM} (h : Built B bw w0 w m) (t : TyM) (hs : t.name.size ≤ maxLen) (he : Lf.Env w) (hl : loadedE m t = 0) (h0 : 0 ≤ t.dims) (hn : t.dims = 0 → t.name.toList.isEmpty = false) :
    Calls Tryz.prog 23 #[.pointer (some ⟨bw, 0, none⟩), .agg #[.int .i64 t.dims, .string t.name]] w fun e w' => e = .returned (.tuple #[.int .i64 (holN m t), .int .i64 0]) ∧ Below w.heap.size w w' := by
  by_cases hd : 0 < t.dims
  · have e : holN m t = 0 := if_pos hd
    rw [e]
    exact Holder_arr h t hs he hl hd
  · have hE := hn (by omega)
    obtain ⟨j, hj, hb⟩ := loaded_name hl hE
    have e : holN m t = j := by unfold holN; rw [if_neg hd, hb, Int.toNat_natCast]
    rw [e]
    refine (Holder_class h t hs he hl (by omega) hE).mono fun r w' ⟨h1, h2⟩ => ⟨?_, h2⟩
    rw [h1, hb]

theorem MethodF {B bw : Nat} {w0 w : World} {m : List EntM} (h : Built B bw w0 w m) (h0 : 0 < m.length) (n d : ByteArray) {k : Nat} (hk : (findH m ((0 : Nat) : Int) n d).1 = (k : Int)) :
    Calls Tryz.prog 15 #[.pointer (some ⟨bw, 0, none⟩), .agg #[.int .i64 (0 : Nat), .int .i64 k]] w fun r w' => ∃ (n3 d3 : ByteArray) (f3 l3 s3 : Int) (ad3 : Option Addr) (q3 c3 : Nat) (er3 : Int), r = .returned (.tuple #[.agg #[.string n3, .string d3, .int .i64 f3, .int .i64 l3, .int .i64 s3, .slice ad3 q3 c3], .int .i64 er3]) ∧ ((findH m ((0 : Nat) : Int) n d).2 = 0 → f3 = flagsAt m (((0 : Nat) : Int), (findH m ((0 : Nat) : Int) n d).1)) ∧ Below w.heap.size w w' := by
  by_cases he : (findH m ((0 : Nat) : Int) n d).2 = 0
  · obtain ⟨b, hb, e, _⟩ := findH_ok h0 he
    obtain rfl : k = b := by omega
    refine (Method2 h h0 hb).mono ?_
    rintro r w' ⟨ad, q, c, rfl, hbl⟩
    exact ⟨_, _, _, _, _, _, _, _, _, rfl, fun _ => by rw [hk, flagsAt_at h0 hb], hbl⟩
  · refine (Method_any h.hw h.live (b := k) (entAt_nat h0)).mono ?_
    rintro r w' ⟨n3, d3, f3, l3, s3, ad3, q3, c3, er3, rfl, _, hb⟩
    exact ⟨_, _, _, _, _, _, _, _, _, rfl, fun h => absurd h he, hb⟩

theorem ObjR2 {B bw : Nat} {w0 w : World} {m : List EntM} (h : Built B bw w0 w m) (h0 : 0 < m.length) (c : Int) (n d : ByteArray) :
    Calls Tryz.prog 110 #[.pointer (some ⟨bw, 0, none⟩), .int .i64 c, .string n, .string d] w fun r w' => r = .returned (.tuple #[idV (objR m n d).1, .int .i64 (objR m n d).2]) ∧ Below w.heap.size w w' := by
  have HS := Lib.hid (IdAt.start w)
  have HO := Lib.hid (OwnR (h.next HS.out.bel) h0 n d)
  obtain ⟨k, hk⟩ := find_nat m h0 n d
  have HQ : Hid (ownR m 0 n d = ((((0 : Nat) : Int), (k : Int)), (findH m ((0 : Nat) : Int) n d).2)) := Lib.hid (by unfold ownR; rw [hk])
  rw [HQ.out] at HO
  have HM := Lib.hid (fun wr (hr : Below w.heap.size w wr) => MethodF (h.next hr) h0 n d hk)
  have HR : Hid (objR m n d = if (findH m ((0 : Nat) : Int) n d).2 = 0 then (if (bits .and .i64 (flagsAt m (((0 : Nat) : Int), (findH m ((0 : Nat) : Int) n d).1)) 1 == 0) = true then noneR else if (bits .and .i64 (flagsAt m (((0 : Nat) : Int), (findH m ((0 : Nat) : Int) n d).1)) 8 != 0) = true then noneR else ((((0 : Nat) : Int), (k : Int)), 0)) else noneR) := Lib.hid (by unfold objR; rw [hk])
  generalize objR m n d = R at *
  generalize flagsAt m (((0 : Nat) : Int), (findH m ((0 : Nat) : Int) n d).1) = F at *
  generalize (findH m ((0 : Nat) : Int) n d).2 = er at *
  unfold idV noneR at *
  clear h hk HQ
  go_enter Tryz.func110, Tryz.ntmps110
  go_wp2_with fail
  refine HO.out.mono ?_
  rintro _ w1 ⟨rfl, hb⟩
  obtain ⟨wx, hwx⟩ : ∃ wx, (w1.alloc (.cells #[.int .i64 0, .int .i64 k] 24)) = wx := ⟨_, rfl⟩
  have hbx : Below w1.heap.size w1 wx := by rw [← hwx]; exact (Below.refl _ _).alloc (Nat.le_refl _) _
  have HB := Lib.hid ((HS.out.next hb).next hbx)
  have k0 : wx.cell? ⟨w1.heap.size, 0, none⟩ = some (.int .i64 0) := by rw [← hwx]; exact alloc_at rfl _ _ rfl
  have k1 : wx.cell? ⟨w1.heap.size, 1, none⟩ = some (.int .i64 k) := by rw [← hwx]; exact alloc_at rfl _ _ rfl
  have HMX := Lib.hid (HM.out wx HB.out.bel)
  clear hb hbx HS HO HM
  go_wp2_with fail
  try rw [hwx]
  clear hwx
  refine HMX.out.mono ?_
  rintro _ w2 ⟨n3, d3, f3, l3, s3, ad3, q3, c3, er3, rfl, hf3, hb⟩
  have HF3 := Lib.hid hf3
  clear hf3
  obtain ⟨wz, hwz⟩ : ∃ wz, (w2.alloc (.cells #[.string n3, .string d3, .int .i64 f3, .int .i64 l3, .int .i64 s3, .slice ad3 q3 c3] 39)) = wz := ⟨_, rfl⟩
  have hbz : Below w2.heap.size w2 wz := by rw [← hwz]; exact (Below.refl _ _).alloc (Nat.le_refl _) _
  have x2 : wz.cell? ⟨w2.heap.size, 2, none⟩ = some (.int .i64 f3) := by rw [← hwz]; exact alloc_at rfl _ _ rfl
  have q0 := below_cell' hbz (below_cell' hb k0)
  have q1 := below_cell' hbz (below_cell' hb k1)
  have HB2 := Lib.hid ((HB.out.next hb).next hbz)
  have s0 := HB2.out.s0
  have s1 := HB2.out.s1
  have t0 := HB2.out.t 0
  have t1 := HB2.out.t 1
  clear hb hbz k0 k1 HB HMX
  by_cases he : er = 0
  · have hf := HF3.out he
    subst hf
    subst he
    cases hf1 : (bits .and .i64 f3 1 == 0) <;> cases hf2 : (bits .and .i64 f3 8 != 0)
    · have HE : Hid (R = ((0, (k : Int)), 0)) := Lib.hid (by rw [HR.out, hf1, hf2]; rfl)
      clear HR HF3
      go_wp2_with fail
      try rw [hwz]
      clear hwz
      refine bodyPost_ret (results_cells_tmp rfl _ _ w.heap.size [.int .i64 0, .int .i64 k] _ rfl (HB2.out.two _ _) Tryz.underlying24 rfl id_info2) rfl ⟨by rw [HE.out]; rfl, HB2.out.end _ _⟩
    · have HE : Hid (R = ((0, 0), 6)) := Lib.hid (by rw [HR.out, hf1, hf2]; rfl)
      clear HR HF3
      go_wp2_with fail
      try rw [hwz]
      clear hwz
      refine bodyPost_ret (results_cells_tmp rfl _ _ w.heap.size [.int .i64 0, .int .i64 0] _ rfl (HB2.out.two _ _) Tryz.underlying24 rfl id_info2) rfl ⟨by rw [HE.out]; rfl, HB2.out.end _ _⟩
    · have HE : Hid (R = ((0, 0), 6)) := Lib.hid (by rw [HR.out, hf1]; rfl)
      clear HR HF3
      go_wp2_with fail
      try rw [hwz]
      clear hwz
      refine bodyPost_ret (results_cells_tmp rfl _ _ w.heap.size [.int .i64 0, .int .i64 0] _ rfl (HB2.out.two _ _) Tryz.underlying24 rfl id_info2) rfl ⟨by rw [HE.out]; rfl, HB2.out.end _ _⟩
    · have HE : Hid (R = ((0, 0), 6)) := Lib.hid (by rw [HR.out, hf1]; rfl)
      clear HR HF3
      go_wp2_with fail
      try rw [hwz]
      clear hwz
      refine bodyPost_ret (results_cells_tmp rfl _ _ w.heap.size [.int .i64 0, .int .i64 0] _ rfl (HB2.out.two _ _) Tryz.underlying24 rfl id_info2) rfl ⟨by rw [HE.out]; rfl, HB2.out.end _ _⟩
  · have HE : Hid (R = ((0, 0), 6)) := Lib.hid (by rw [HR.out, if_neg he])
    have he' : (er != 0) = true := by simpa using he
    have he2 : (er == 0) = false := by simpa using he
    clear HR HF3 he
    go_wp2_with fail
    try rw [hwz]
    clear hwz
    refine bodyPost_ret (results_cells_tmp rfl _ _ w.heap.size [.int .i64 0, .int .i64 0] _ rfl (HB2.out.two _ _) Tryz.underlying24 rfl id_info2) rfl ⟨by rw [HE.out]; rfl, HB2.out.end _ _⟩

theorem alongR {l : List ((Int × Int) × Int)} {n : Nat} (hn : l.length = n) {p : Int × Int} {e : Int} (h : Along (fun j p e => l[j]? = some (p, e)) n p e) : firstR l = (p, e) := by
  have key : ∀ k, (∀ j, j < k → ∃ p' e', l[j]? = some (p', e') ∧ e' ≠ 0) → ∀ (j : Nat) (y : (Int × Int) × Int), j < k → l[j]? = some y → y.2 ≠ 0 := fun k h j y hj hy => by
    obtain ⟨p', e', h1, h2⟩ := h j hj
    rw [h1] at hy
    injection hy with hy
    rw [← hy]
    exact h2
  rcases h with ⟨rfl, k, hk, hq, hp⟩ | ⟨rfl, rfl, hp⟩
  · rw [firstR_at hq (key k hp) rfl]
  · refine firstR_none fun x hx => ?_
    obtain ⟨j, hj, rfl⟩ := List.getElem_of_mem hx
    exact key n hp j _ (by omega) (List.getElem?_eq_getElem hj)

theorem LookI_ifc {B bw : Nat} {w0 w : World} {m : List EntM} (h : Built B bw w0 w m) {c : Nat} (hc : c < m.length) (hi : isIfaceM m c = true) (n d : ByteArray) :
    Calls Tryz.prog 81 #[.pointer (some ⟨bw, 0, none⟩), .int .i64 c, .string n, .string d] w fun r w' => r = .returned (.tuple #[idV (lookIM m c n d).1, .int .i64 (lookIM m c n d).2]) ∧ Below w.heap.size w w' := by
  have HS := Lib.hid (IdAt.start w)
  obtain ⟨wa, hwa⟩ : ∃ wa, ((w.alloc (.cells #[.int .i64 0, .int .i64 0] 24)).alloc (.cells #[.func (.func 109) #[] #[], .func (.func 110) #[] #[]] 179)) = wa := ⟨_, rfl⟩
  have hba : Below (w.alloc (.cells #[.int .i64 0, .int .i64 0] 24)).heap.size (w.alloc (.cells #[.int .i64 0, .int .i64 0] 24)) wa := by rw [← hwa]; exact (Below.refl _ _).alloc (Nat.le_refl _) _
  have HSA := Lib.hid (HS.out.next hba)
  have hcell : ∀ j (hj : j < [109, 110].length), wa.cell? ⟨w.heap.size + 1, j, none⟩ = some (roadV [109, 110][j]) := fun j hj => by
    rw [← hwa]
    match j, hj with
    | 0, _ => exact alloc_at (by simp) _ _ rfl
    | 1, _ => exact alloc_at (by simp) _ _ rfl
  have h' := h.next HSA.out.bel
  have h0 : 0 < m.length := by omega
  have HL := Lib.hid (Look_in (bw := bw) (w := wa) (c := c) (ifc := true) (g := w.heap.size + 1) (k := 2) n d (by omega) [109, 110] rfl hcell
      (fun wr hr => Class2 (h'.next hr) hc) (fun wr hr => by rw [← hi]; exact (h'.next hr).isIface c)
      (fun j p e => [ownR m c n d, objR m n d, oneM m c n d, someM m c n d][j]? = some (p, e))
      (fun j hj => by
        match j, hj with
        | 0, _ => exact .inr (.inl rfl)
        | 1, _ => exact .inr (.inr (.inl rfl))
        | 2, _ => exact .inr (.inr (.inr (.inl rfl)))
        | 3, _ => exact .inr (.inr (.inr (.inr rfl))))
      (fun wr hr j hj => by
        match j, hj with
        | 0, _ => exact (OwnR (h'.next hr) hc n d).mono fun r w' ⟨h1, h2⟩ => ⟨_, _, h1, rfl, h2⟩
        | 1, _ => exact (ObjR2 (h'.next hr) h0 c n d).mono fun r w' ⟨h1, h2⟩ => ⟨_, _, h1, rfl, h2⟩
        | 2, _ => exact (One (h'.next hr) hc n d).mono fun r w' ⟨h1, h2⟩ => ⟨_, _, h1, rfl, h2⟩
        | 3, _ => exact (SomeR (h'.next hr) hc n d).mono fun r w' ⟨h1, h2⟩ => ⟨_, _, h1, rfl, h2⟩))
  have HQ : Hid (∀ p e, Along (fun j p e => [ownR m c n d, objR m n d, oneM m c n d, someM m c n d][j]? = some (p, e)) (2 + 2) p e → lookIM m c n d = (p, e)) := Lib.hid fun p e ha => by
    unfold lookIM
    rw [if_pos hi]
    exact alongR rfl ha
  unfold idV
  generalize lookIM m c n d = R at *
  clear h h' hba HS hcell
  go_enter Tryz.func81, Tryz.ntmps81
  go_wp2_with fail
  try rw [hwa]
  clear hwa
  refine HL.out.mono ?_
  rintro _ w1 ⟨p, e, rfl, ha, hb⟩
  have HR := Lib.hid (HQ.out p e ha)
  have HB := Lib.hid (HSA.out.next hb)
  have s0 := HB.out.s0
  have s1 := HB.out.s1
  have t0 := HB.out.t 0
  have t1 := HB.out.t 1
  clear ha hb HQ HL HSA
  unfold idV
  go_wp2
  refine bodyPost_ret (results_cells_tmp rfl _ _ w.heap.size [.int .i64 p.1, .int .i64 p.2] _ rfl (HB.out.two _ _) Tryz.underlying24 rfl id_info2) rfl ⟨by rw [HR.out]; rfl, HB.out.end _ _⟩

/-- LookupIface, by what look answers. -/
theorem LookI_by {bw : Nat} {w : World} {c : Int} (n d : ByteArray) {er : Int} (HL0 : ∀ wr v, Below w.heap.size w wr → Calls Tryz.prog 108 #[.pointer (some ⟨bw, 0, none⟩), .int .i64 c, .string n, .string d, .bool true, v] wr fun r w' => r = .returned (.tuple #[.agg #[.int .i64 0, .int .i64 0], .int .i64 er]) ∧ Below wr.heap.size wr w') :
    Calls Tryz.prog 81 #[.pointer (some ⟨bw, 0, none⟩), .int .i64 c, .string n, .string d] w fun r w' => r = .returned (.tuple #[.agg #[.int .i64 0, .int .i64 0], .int .i64 er]) ∧ Below w.heap.size w w' := by
  have HS := Lib.hid (IdAt.start w)
  obtain ⟨wa, hwa⟩ : ∃ wa, ((w.alloc (.cells #[.int .i64 0, .int .i64 0] 24)).alloc (.cells #[.func (.func 109) #[] #[], .func (.func 110) #[] #[]] 179)) = wa := ⟨_, rfl⟩
  have hba : Below (w.alloc (.cells #[.int .i64 0, .int .i64 0] 24)).heap.size (w.alloc (.cells #[.int .i64 0, .int .i64 0] 24)) wa := by rw [← hwa]; exact (Below.refl _ _).alloc (Nat.le_refl _) _
  have HSA := Lib.hid (HS.out.next hba)
  have HL := Lib.hid (HL0 wa (.slice (some ⟨w.heap.size + 1, 0, none⟩) 2 2) HSA.out.bel)
  clear HS hba HL0
  go_enter Tryz.func81, Tryz.ntmps81
  go_wp2_with fail
  try rw [hwa]
  clear hwa
  refine HL.out.mono ?_
  rintro _ w1 ⟨rfl, hb⟩
  have HB := Lib.hid (HSA.out.next hb)
  have s0 := HB.out.s0
  have s1 := HB.out.s1
  have t0 := HB.out.t 0
  have t1 := HB.out.t 1
  clear hb HSA HL
  go_wp2
  refine bodyPost_ret (results_cells_tmp rfl _ _ w.heap.size [.int .i64 0, .int .i64 0] _ rfl (HB.out.two _ _) Tryz.underlying24 rfl id_info2) rfl ⟨rfl, HB.out.end _ _⟩
theorem LookI_any {B bw : Nat} {w0 w : World} {m : List EntM} (h : Built B bw w0 w m) {c : Nat} (hc : c < m.length) (n d : ByteArray) :
    Calls Tryz.prog 81 #[.pointer (some ⟨bw, 0, none⟩), .int .i64 c, .string n, .string d] w fun r w' => r = .returned (.tuple #[.agg #[.int .i64 (lookIM m c n d).1.1, .int .i64 (lookIM m c n d).1.2], .int .i64 (lookIM m c n d).2]) ∧ Below w.heap.size w w' := by
  cases hi : isIfaceM m c
  · have e : lookIM m c n d = ((0, 0), 23) := by unfold lookIM; rw [hi]; rfl
    rw [e]
    exact LookI_by n d fun wr v hr => Look_off n d true v (fun wz hz => Class2 ((h.next hr).next hz) hc) (fun wz hz => by rw [show (!true) = isIfaceM m c by rw [hi]; rfl]; exact ((h.next hr).next hz).isIface c)
  · exact LookI_ifc h hc hi n d
theorem Look_any {B bw : Nat} {w0 w : World} {m : List EntM} (h : Built B bw w0 w m) {c : Nat} (hc : c < m.length) (n d : ByteArray) :
    Calls Tryz.prog 82 #[.pointer (some ⟨bw, 0, none⟩), .int .i64 c, .string n, .string d] w fun r w' => r = .returned (.tuple #[.agg #[.int .i64 (lookM m c n d).1.1, .int .i64 (lookM m c n d).1.2], .int .i64 (lookM m c n d).2]) ∧ Below w.heap.size w w' := by
  cases hi : isIfaceM m c
  · have e : lookM m c n d = lookupM m c n d := by unfold lookM; rw [hi]; rfl
    rw [e]
    exact Lookup_in h hc hi n d
  · have e : lookM m c n d = ((0, 0), 23) := by unfold lookM; rw [hi]; rfl
    rw [e]
    exact Lookup_by n d fun wr v hr => Look_off n d false v (fun wz hz => Class2 ((h.next hr).next hz) hc) (fun wz hz => by rw [show (!false) = isIfaceM m c by rw [hi]; rfl]; exact ((h.next hr).next hz).isIface c)

theorem RClass_out {bw : Nat} {w : World} {dd : Int} {s : ByteArray}
    (HC0 : ∀ wr, Below w.heap.size w wr → Calls Tryz.prog 47 #[.pointer (some ⟨bw, 0, none⟩), .int .i64 dd] wr fun r w' => r = .returned (.tuple #[.agg #[.string ⟨#[]⟩, .string ⟨#[]⟩, .slice none 0 0, .int .i64 0, .int .i64 0, .slice none 0 0], .int .i64 3]) ∧ Below wr.heap.size wr w') :
    Calls Tryz.prog 24 #[.pointer (some ⟨bw, 0, none⟩), .int .i64 dd, .string s] w fun r w' => r = .returned (.tuple #[.agg #[.int .i64 0, .string ⟨#[]⟩], .int .i64 3]) ∧ Below w.heap.size w w' := by
  have HS := Lib.hid (TyAt.start w)
  have HC := Lib.hid (HC0 _ HS.out.bel)
  clear HC0
  go_enter Tryz.func24, Tryz.ntmps24
  go_wp2_with fail
  refine HC.out.mono ?_
  rintro _ w1 ⟨rfl, hb⟩
  have HB := Lib.hid ((HS.out.next hb).next ((Below.refl w1.heap.size w1).alloc (Nat.le_refl _) (.cells #[.string ⟨#[]⟩, .string ⟨#[]⟩, .slice none 0 0, .int .i64 0, .int .i64 0, .slice none 0 0] 62)))
  have s0 := HB.out.s0
  have s1 := HB.out.s1
  have t0 := HB.out.t 0
  have t1 := HB.out.t 1
  clear hb HS HC
  go_wp2
  refine bodyPost_ret (results_cells_tmp rfl _ _ w.heap.size [.int .i64 0, .string ⟨#[]⟩] _ rfl (HB.out.two _ _) Tryz.underlying33 rfl type_info2) rfl ⟨rfl, HB.out.end _ _⟩
theorem RMethod_out {bw : Nat} {w : World} {dd : Int} {ifc : Bool} {cls n d : ByteArray}
    (HC0 : ∀ wr, Below w.heap.size w wr → Calls Tryz.prog 47 #[.pointer (some ⟨bw, 0, none⟩), .int .i64 dd] wr fun r w' => r = .returned (.tuple #[.agg #[.string ⟨#[]⟩, .string ⟨#[]⟩, .slice none 0 0, .int .i64 0, .int .i64 0, .slice none 0 0], .int .i64 3]) ∧ Below wr.heap.size wr w') :
    Calls Tryz.prog 22 #[.pointer (some ⟨bw, 0, none⟩), .int .i64 dd, .agg #[.bool ifc, .string cls, .string n, .string d]] w fun r w' => r = .returned (.tuple #[.agg #[.int .i64 0, .int .i64 0], .int .i64 3]) ∧ Below w.heap.size w w' := by
  have HS := Lib.hid (MetAt2.start w ifc cls n d)
  have HC := Lib.hid (HC0 _ HS.out.bel)
  clear HC0
  go_enter Tryz.func22, Tryz.ntmps22
  go_wp2_with fail
  refine HC.out.mono ?_
  rintro _ w1 ⟨rfl, hb⟩
  have HB := Lib.hid ((HS.out.next hb).next ((Below.refl w1.heap.size w1).alloc (Nat.le_refl _) (.cells #[.string ⟨#[]⟩, .string ⟨#[]⟩, .slice none 0 0, .int .i64 0, .int .i64 0, .slice none 0 0] 62)))
  have s0 := HB.out.s0
  have s1 := HB.out.s1
  have t0 := HB.out.t 0
  have t1 := HB.out.t 1
  clear hb HS HC
  go_wp2
  refine bodyPost_ret (results_cells_tmp rfl _ _ (w.heap.size + 1) [.int .i64 0, .int .i64 0] _ rfl (HB.out.two _ _) Tryz.underlying24 rfl id_info2) rfl ⟨rfl, HB.out.end _ _⟩
end Go.Proofs.YtiiebakblkpkeaaGreatDoor.Hi
/- resolve.Class, found, Method: what they answer, in general. -/
set_option maxRecDepth 100000
set_option maxHeartbeats 1000000
set_option linter.unusedVariables false
set_option linter.unusedSimpArgs false
namespace Go.Proofs.YtiiebakblkpkeaaGreatDoor.Hi
open Go.RowKit Bs

theorem fits_2000 : 2000 ≤ maxLen := by decide
theorem name_fits {s : ByteArray} (h : refE s = 0) : (refT s).name.size ≤ maxLen := Nat.le_trans (refT_ok s h).1 fits_2000

theorem RClass {B bw : Nat} {w0 w : World} {m : List EntM} (h : Built B bw w0 w m) {i : Nat} (hi : i < m.length) (s : ByteArray) (hs : s.size ≤ maxLen) (he : Lf.Env w) :
    Calls Tryz.prog 24 #[.pointer (some ⟨bw, 0, none⟩), .int .i64 i, .string s] w fun r w' => r = .returned (.tuple #[.agg #[.int .i64 (classR m i s).1.dims, .string (classR m i s).1.name], .int .i64 (classR m i s).2]) ∧ Below w.heap.size w w' :=
  RClass_any (refT s) (refE s) (loadedE m (refT s)) (typeOpenM m i (refT s))
    (fun wr hr => Class2 (h.next hr) hi)
    (fun wr hr => by
      have := Pr.ParseRef s.data.toList wr (by rw [← Pr.ba_size, Pr.ba_of]; exact hs) (he.below hr)
      rw [Pr.ba_of] at this
      exact this)
    (fun hp wr hr => Loaded (h.next hr) (refT s) (name_fits hp) (he.below hr))
    (fun hp hl wr hr => TypeOpen_any (h.next hr) hi (refT s) (name_fits hp) (he.below hr) hl)
    _ _ rfl

theorem RFound {B bw : Nat} {w0 w : World} {m : List EntM} (h : Built B bw w0 w m) (r : RefM) (t : TyM) (hs : t.name.size ≤ maxLen) (he : Lf.Env w) (hl : loadedE m t = 0) (h0 : 0 ≤ t.dims) (hn : t.dims = 0 → t.name.toList.isEmpty = false) (hc : holN m t < m.length) :
    Calls Tryz.prog 48 #[.pointer (some ⟨bw, 0, none⟩), .agg #[.int .i64 t.dims, .string t.name], .agg #[.bool r.iface, .string r.cls, .string r.name, .string r.desc]] w fun x w' => x = .returned (.tuple #[.agg #[.int .i64 (foundM m t r).1.1, .int .i64 (foundM m t r).1.2], .int .i64 (holN m t), .int .i64 (foundM m t r).2]) ∧ Below w.heap.size w w' :=
  RFound_any (foundM m t r) t (fun wr hr => Holder_any (h.next hr) t hs (he.below hr) hl h0 hn)
    (fun hi hd wr hr => by
      have e : foundM m t r = lookIM m (holN m t) r.name r.desc := by unfold foundM; rw [if_pos hi, if_neg hd]
      rw [e]
      exact LookI_any (h.next hr) hc r.name r.desc)
    (fun hi wr hr => by
      have e : foundM m t r = lookM m (holN m t) r.name r.desc := by unfold foundM; rw [if_neg (by rw [hi]; decide)]
      rw [e]
      exact Look_any (h.next hr) hc r.name r.desc)
    (fun hi hd => by unfold foundM; rw [if_pos hi, if_pos hd])

theorem RMethod {B bw : Nat} {w0 w : World} {m : List EntM} (h : Built B bw w0 w m) {i : Nat} (hi : i < m.length) (r : RefM) (h1 : r.cls.size ≤ maxLen) (h2 : r.name.size ≤ maxLen) (h3 : r.desc.size ≤ maxLen) (he : Lf.Env w) :
    Calls Tryz.prog 22 #[.pointer (some ⟨bw, 0, none⟩), .int .i64 i, .agg #[.bool r.iface, .string r.cls, .string r.name, .string r.desc]] w fun x w' => x = .returned (.tuple #[.agg #[.int .i64 (methodR m i r).1.1, .int .i64 (methodR m i r).1.2], .int .i64 (methodR m i r).2]) ∧ Below w.heap.size w w' :=
  RMethod_any (classR m i r.cls).1 (Pr.formE (refOk r)) (classR m i r.cls).2 (foundM m (refT r.cls) r).2 (holN m (refT r.cls)) (foundM m (refT r.cls) r).1 (openR m i r)
    (fun wr hr => Class2 (h.next hr) hi)
    (fun wr hr => by
      have := Pr.RefCheck r.iface r.cls.data.toList r.name.data.toList r.desc.data.toList wr (by rw [← Pr.ba_size, Pr.ba_of]; exact h1) (by rw [← Pr.ba_size, Pr.ba_of]; exact h2) (by rw [← Pr.ba_size, Pr.ba_of]; exact h3) (he.below hr)
      rw [Pr.ba_of, Pr.ba_of, Pr.ba_of] at this
      exact this)
    (fun _ wr hr => RClass (h.next hr) hi r.cls h1 (he.below hr))
    (fun _ hc wr hr => by
      obtain ⟨e1, e2, e3, e4⟩ := class_ok hc
      obtain ⟨_, t1, t2⟩ := refT_ok r.cls e1
      rw [e4]
      exact RFound (h.next hr) r (refT r.cls) (name_fits e1) (he.below hr) e2 t1 t2 (holN_lt (by omega) e1 e2))
    (fun _ hc hf wr hr => by
      obtain ⟨e1, e2, e3, e4⟩ := class_ok hc
      have hl := holN_lt (by omega) e1 e2
      obtain ⟨⟨a, b, ha, hb, e, _, _⟩, _⟩ := has_found h.wf h.ord hl hf
      have eo : openR m i r = moM m i a m[a].c.meths[b].flags (holN m (refT r.cls)) := by
        unfold openR
        rw [e, flagsAt_at ha hb, Int.toNat_natCast]
      rw [eo, e]
      exact MethodOpen_any (h.next hr) hi hl ha hb)
    _ _ _ rfl

theorem RClass_far {B bw : Nat} {w0 w : World} {m : List EntM} (h : Built B bw w0 w m) {d : Int} (hd : entAt m d = none) (s : ByteArray) :
    Calls Tryz.prog 24 #[.pointer (some ⟨bw, 0, none⟩), .int .i64 d, .string s] w fun r w' => r = .returned (.tuple #[.agg #[.int .i64 0, .string ⟨#[]⟩], .int .i64 3]) ∧ Below w.heap.size w w' :=
  RClass_out fun wr hr => Class_none (h.next hr).hw (h.next hr).live hd
theorem RMethod_far {B bw : Nat} {w0 w : World} {m : List EntM} (h : Built B bw w0 w m) {d : Int} (hd : entAt m d = none) (r : RefM) :
    Calls Tryz.prog 22 #[.pointer (some ⟨bw, 0, none⟩), .int .i64 d, .agg #[.bool r.iface, .string r.cls, .string r.name, .string r.desc]] w fun r w' => r = .returned (.tuple #[.agg #[.int .i64 0, .int .i64 0], .int .i64 3]) ∧ Below w.heap.size w w' :=
  RMethod_out fun wr hr => Class_none (h.next hr).hw (h.next hr).live hd
theorem mEq_ok {n d : ByteArray} {x : MethM} (h : Pr.mEq n d x = true) : x.name = n ∧ x.desc = d := by
  unfold Pr.mEq at h
  rw [str_eq, str_eq] at h
  simpa using h

/-- A reference's four cells. -/
structure RefAt (w : World) (b : Nat) (r : RefM) : Prop where
  r0 : w.cell? ⟨b, 0, none⟩ = some (.bool r.iface)
  r1 : w.cell? ⟨b, 1, none⟩ = some (.string r.cls)
  r2 : w.cell? ⟨b, 2, none⟩ = some (.string r.name)
  r3 : w.cell? ⟨b, 3, none⟩ = some (.string r.desc)
theorem RefAt.start (w : World) (r : RefM) : RefAt (w.alloc (.cells #[.bool r.iface, .string r.cls, .string r.name, .string r.desc] 30)) w.heap.size r :=
  ⟨World.cell?_alloc_new .., World.cell?_alloc_new .., World.cell?_alloc_new .., World.cell?_alloc_new ..⟩
theorem RefAt.next {w w1 : World} {b : Nat} {r : RefM} (h : RefAt w b r) (hb : Below w.heap.size w w1) : RefAt w1 b r :=
  ⟨below_cell' hb h.r0, below_cell' hb h.r1, below_cell' hb h.r2, below_cell' hb h.r3⟩

end Go.Proofs.YtiiebakblkpkeaaGreatDoor.Hi
