/- Selection: types in a world: Holder of any type, what is below what. -/
import Derived.Test.YtiiebakblkpkeaaGreatDoorVC
set_option maxRecDepth 100000
set_option maxHeartbeats 4000000
set_option linter.unusedVariables false
set_option linter.unusedSimpArgs false
namespace Go.Proofs.YtiiebakblkpkeaaGreatDoor.Hi
open Go.RowKit Bs

/-- Holder, of any type. -/
theorem Holder_bad {B bw : Nat} {w0 w : World} {m : List EntM} (h : Built B bw w0 w m) (t : TyM) (hs : t.name.size ≤ maxLen) (he : Lf.Env w) (hl : loadedE m t ≠ 0) :
    Calls Tryz.prog 23 #[.pointer (some ⟨bw, 0, none⟩), t.val] w fun e w' => e = .returned (.tuple #[.int .i64 0, .int .i64 (loadedE m t)]) ∧ Below w.heap.size w w' := by
  have hb : Below w.heap.size w (w.alloc (.cells #[.int .i64 t.dims, .string t.name] 33)) := (Below.refl _ _).alloc (Nat.le_refl _) _
  have HB := Lib.hid hb
  have HT := Lib.hid (Loaded (h.next hb) t hs (he.below hb))
  have hl' : (loadedE m t != 0) = true := by simpa using hl
  unfold TyM.val at *
  generalize loadedE m t = L at *
  clear hb he h hl
  generalize t.name = nm at *
  generalize t.dims = dm at *
  go_enter Tryz.func23, Tryz.ntmps23
  go_wp2_with fail
  refine HT.out.mono ?_
  rintro e w1 ⟨rfl, hb1⟩
  have HB1 : Hid (Below w.heap.size w w1) := Lib.hid (HB.out.trans (hb1.mono (by simp)))
  clear hb1 HT
  go_wp2
  go_ret2
  exact ⟨rfl, HB1.out⟩
theorem Holder_int {B bw : Nat} {w0 w : World} {m : List EntM} (h : Built B bw w0 w m) (t : TyM) (hs : t.name.size ≤ maxLen) (he : Lf.Env w) (hl : loadedE m t = 0) (hi : isIntM t = true) :
    Calls Tryz.prog 23 #[.pointer (some ⟨bw, 0, none⟩), t.val] w fun e w' => e = .returned (.tuple #[.int .i64 0, .int .i64 2]) ∧ Below w.heap.size w w' := by
  have hb : Below w.heap.size w (w.alloc (.cells #[.int .i64 t.dims, .string t.name] 33)) := (Below.refl _ _).alloc (Nat.le_refl _) _
  have HB := Lib.hid hb
  have HT := Lib.hid (Loaded (h.next hb) t hs (he.below hb))
  rw [hl] at HT
  have HI := Lib.hid (fun wr => IsInt t wr)
  rw [hi] at HI
  have q0 : (w.alloc (.cells #[.int .i64 t.dims, .string t.name] 33)).cell? ⟨w.heap.size, 0, none⟩ = some (.int .i64 t.dims) := World.cell?_alloc_new ..
  have q1 : (w.alloc (.cells #[.int .i64 t.dims, .string t.name] 33)).cell? ⟨w.heap.size, 1, none⟩ = some (.string t.name) := World.cell?_alloc_new ..
  unfold TyM.val at *
  clear hb he h hl hi
  generalize t.name = nm at *
  generalize t.dims = dm at *
  go_enter Tryz.func23, Tryz.ntmps23
  go_wp2_with fail
  refine HT.out.mono ?_
  rintro e w1 ⟨rfl, hb1⟩
  have p0 := below_cell' hb1 q0
  have p1 := below_cell' hb1 q1
  have HB1 : Hid (Below w.heap.size w w1) := Lib.hid (HB.out.trans (hb1.mono (by simp)))
  clear hb1 HT q0 q1
  go_wp2_with fail
  refine (HI.out _).mono ?_
  rintro e w2 ⟨rfl, hb2⟩
  have HB2 : Hid (Below w.heap.size w w2) := Lib.hid (HB1.out.trans (hb2.mono HB1.out.size))
  clear hb2 HI p0 p1
  go_wp2
  go_ret2
  exact ⟨rfl, HB2.out⟩
theorem loaded_tyOk {m : List EntM} {t : TyM} (h : loadedE m t = 0) : tyOk t = true := by
  unfold loadedE at h
  by_cases hk : tyOk t = true
  · exact hk
  · rw [if_neg hk] at h
    cases h
theorem tyOk_dims {t : TyM} (h : tyOk t = true) : 0 ≤ t.dims ∧ t.dims ≤ 255 := by
  unfold tyOk at h
  simp only [Bool.and_eq_true, decide_eq_true_eq] at h
  exact h.1
theorem Holder_all {B bw : Nat} {w0 w : World} {m : List EntM} (h : Built B bw w0 w m) (t : TyM) (hs : t.name.size ≤ maxLen) (he : Lf.Env w) :
    Calls Tryz.prog 23 #[.pointer (some ⟨bw, 0, none⟩), .agg #[.int .i64 t.dims, .string t.name]] w fun e w' => e = .returned (.tuple #[.int .i64 (holderM m t).1, .int .i64 (holderM m t).2]) ∧ Below w.heap.size w w' := by
  unfold holderM
  by_cases hl : loadedE m t = 0
  · rw [if_pos hl]
    cases hi : isIntM t with
    | true => exact Holder_int h t hs he hl hi
    | false =>
      rw [if_neg (by decide)]
      by_cases hd : 0 < t.dims
      · rw [if_pos hd]
        exact Holder_arr h t hs he hl hd
      · rw [if_neg hd]
        have hd0 : t.dims = 0 := by have := (tyOk_dims (loaded_tyOk hl)).1; omega
        refine Holder_class h t hs he hl hd0 ?_
        unfold isIntM at hi
        rw [hd0] at hi
        simpa using hi
  · rw [if_neg hl]
    exact Holder_bad h t hs he hl

/-! ### What is below what -/

def topB (n : ByteArray) : Bool := (n.toList == [79, 98, 106, 101, 99, 116]) || (n.toList == [67, 108, 111, 110, 101, 97, 98, 108, 101]) || (n.toList == [83, 101, 114, 105, 97, 108, 105, 122, 97, 98, 108, 101])
theorem ATop (n : ByteArray) (w : World) : Calls Tryz.prog 87 #[.string n] w fun e w' => e = .returned (.bool (topB n)) ∧ w = w' := by
  unfold topB
  cases h1 : (n.toList == [79, 98, 106, 101, 99, 116]) with
  | true =>
    go_enter Tryz.func87, Tryz.ntmps87
    go_wp2
    go_ret
    exact ⟨rfl, rfl⟩
  | false =>
    cases h2 : (n.toList == [67, 108, 111, 110, 101, 97, 98, 108, 101]) with
    | true =>
      go_enter Tryz.func87, Tryz.ntmps87
      go_wp2
      go_ret
      exact ⟨rfl, rfl⟩
    | false =>
      go_enter Tryz.func87, Tryz.ntmps87
      go_wp2
      go_ret
      exact ⟨rfl, rfl⟩
def eqT (s t : TyM) : Bool := (s.dims == t.dims) && (s.name.toList == t.name.toList)
def cutBy (t : TyM) (k : Int) : TyM := ⟨t.dims - k, t.name⟩
/-- Of types of which one is no array: is the first below the second? -/
def baseM (m : List EntM) (s t : TyM) : Bool := if (isIntM s || isIntM t) = true then eqT s t else if 0 < s.dims then topB t.name else if 0 < t.dims then false else extM m (byNameM m s.name).1 (byNameM m t.name).1
def belowM (m : List EntM) (s t : TyM) : Bool := baseM m (cutBy s (min s.dims t.dims)) (cutBy t (min s.dims t.dims))

/-- Two types in memory. -/
structure TwoT (g : Nat) (w : World) (s t : TyM) : Prop where
  s0 : w.cell? ⟨g, 0, none⟩ = some (.int .i64 s.dims)
  s1 : w.cell? ⟨g, 1, none⟩ = some (.string s.name)
  t0 : w.cell? ⟨g + 1, 0, none⟩ = some (.int .i64 t.dims)
  t1 : w.cell? ⟨g + 1, 1, none⟩ = some (.string t.name)
  fs : ∀ j, w.frozen? ⟨g, j, none⟩ = false
  ft : ∀ j, w.frozen? ⟨g + 1, j, none⟩ = false
theorem TwoT.start (w : World) (s t : TyM) : TwoT w.heap.size ((w.alloc (.cells #[.int .i64 s.dims, .string s.name] 33)).alloc (.cells #[.int .i64 t.dims, .string t.name] 33)) s t := by
  have h2 : ∀ j, ((w.alloc (.cells #[.int .i64 s.dims, .string s.name] 33)).alloc (.cells #[.int .i64 t.dims, .string t.name] 33)).cell? ⟨w.heap.size + 1, j, none⟩ = (#[Value.int .i64 t.dims, .string t.name])[j]? := fun j => by
    have := World.cell?_alloc_new (w.alloc (.cells #[.int .i64 s.dims, .string s.name] 33)) #[.int .i64 t.dims, .string t.name] 33 j
    rw [World.size_alloc] at this
    exact this
  refine ⟨alloc_old (World.cell?_alloc_new ..), alloc_old (World.cell?_alloc_new ..), h2 0, h2 1, fun j => (World.frozen?_of_block (w := w.alloc (.cells #[.int .i64 s.dims, .string s.name] 33)) (a := ⟨w.heap.size, j, none⟩) (Below.heap_alloc _ _ _ (by simp))).trans (frozen_new ..), fun j => ?_⟩
  have := frozen_new (w.alloc (.cells #[.int .i64 s.dims, .string s.name] 33)) #[.int .i64 t.dims, .string t.name] 33 j
  rw [World.size_alloc] at this
  exact this
theorem TwoT.next {g : Nat} {w w' : World} {s t : TyM} (h : TwoT g w s t) (hb : Below w.heap.size w w') : TwoT g w' s t :=
  ⟨below_cell' hb h.s0, below_cell' hb h.s1, below_cell' hb h.t0, below_cell' hb h.t1, fun j => (World.frozen?_of_block (w := w) (a := ⟨g, j, none⟩) (hb.block _ (World.block_lt_of_cell? w ⟨g, 0, none⟩ h.s0))).trans (h.fs j), fun j => (World.frozen?_of_block (w := w) (a := ⟨g + 1, j, none⟩) (hb.block _ (World.block_lt_of_cell? w ⟨g + 1, 0, none⟩ h.t0))).trans (h.ft j)⟩
theorem TwoT.dec {g : Nat} {w : World} {s t : TyM} (h : TwoT g w s t) (a b : Int) : TwoT g ((w.setCell ⟨g, 0, none⟩ (.int .i64 a)).setCell ⟨g + 1, 0, none⟩ (.int .i64 b)) ⟨a, s.name⟩ ⟨b, t.name⟩ := by
  refine ⟨?_, ?_, ?_, ?_, fun j => ?_, fun j => ?_⟩
  · exact (setCell_off (by omega)).trans (setCell_same h.s0)
  · exact (setCell_off (by omega)).trans ((setCell_off (by omega)).trans h.s1)
  · exact setCell_same ((setCell_off (by omega)).trans h.t0)
  · exact (setCell_off (by omega)).trans ((setCell_off (by omega)).trans h.t1)
  · rw [World.frozen?_setCell, World.frozen?_setCell]; exact h.fs j
  · rw [World.frozen?_setCell, World.frozen?_setCell]; exact h.ft j

theorem cut_cut (t : TyM) (k : Nat) : (⟨(cutBy t (k : Int)).dims - 1, (cutBy t (k : Int)).name⟩ : TyM) = cutBy t ((k + 1 : Nat) : Int) := by
  unfold cutBy
  simp only [TyM.mk.injEq, and_true]
  omega
theorem ABelow {B bw : Nat} {w0 w : World} {m : List EntM} (h : Built B bw w0 w m) (s t : TyM) (hs : s.name.size ≤ maxLen) (ht : t.name.size ≤ maxLen) (hsd : 0 ≤ s.dims ∧ s.dims ≤ 255) (htd : 0 ≤ t.dims ∧ t.dims ≤ 255) :
    Calls Tryz.prog 54 #[.pointer (some ⟨bw, 0, none⟩), .agg #[.int .i64 s.dims, .string s.name], .agg #[.int .i64 t.dims, .string t.name]] w fun e w' => e = .returned (.bool (belowM m s t)) ∧ Below w.heap.size w w' := by
  have HT0 := Lib.hid (TwoT.start w s t)
  obtain ⟨wa, hwa⟩ : ∃ wa, ((w.alloc (.cells #[.int .i64 s.dims, .string s.name] 33)).alloc (.cells #[.int .i64 t.dims, .string t.name] 33)) = wa := ⟨_, rfl⟩
  rw [hwa] at HT0
  have HBA : Hid (Below w.heap.size w wa) := Lib.hid (by rw [← hwa]; exact ((Below.refl _ _).alloc (Nat.le_refl _) _).alloc (by simp) _)
  have HH := Lib.hid (fun wr (hr : Below w.heap.size w wr) => h.next hr)
  obtain ⟨n, hn⟩ : ∃ n : Nat, min s.dims t.dims = (n : Int) := ⟨(min s.dims t.dims).toNat, by omega⟩
  have HR0 : Hid (belowM m s t = baseM m (cutBy s (n : Int)) (cutBy t (n : Int))) := Lib.hid (by unfold belowM; rw [hn])
  obtain ⟨R, hR⟩ : ∃ R, belowM m s t = R := ⟨_, rfl⟩
  rw [hR] at HR0 ⊢
  have HN := Lib.hid (And.intro hn (And.intro hsd htd))
  have HSN : Hid ((cutBy s (n : Int)).name.size ≤ maxLen ∧ (cutBy t (n : Int)).name.size ≤ maxLen) := Lib.hid ⟨hs, ht⟩
  clear h hR hn hs ht hsd htd
  go_enter Tryz.func54, Tryz.ntmps54
  go_wp2_with fail
  try rw [hwa]
  clear hwa
  go_loopg [] n (fun gk wr => ∃ k : Nat, Hid (k + gk = n) ∧ Hid (TwoT w.heap.size wr (cutBy s (k : Int)) (cutBy t (k : Int)) ∧ Below w.heap.size w wr))
  case atStart =>
    have e : ∀ x : TyM, cutBy x ((0 : Nat) : Int) = x := fun x => by unfold cutBy; simp
    exact ⟨0, Lib.hid (Nat.zero_add _), Lib.hid ⟨by rw [e, e]; exact HT0.out, HBA.out⟩⟩
  case round =>
    obtain ⟨k, hk, HW⟩ := hrel
    by_cases hlt : k < n
    · have HCS := cut_cut s k
      have HCT := cut_cut t k
      have hb1 : 0 < (cutBy s (k : Int)).dims ∧ (cutBy s (k : Int)).dims ≤ 255 := by have := HN.out; show 0 < s.dims - k ∧ s.dims - k ≤ 255; omega
      have hb2 : 0 < (cutBy t (k : Int)).dims ∧ (cutBy t (k : Int)).dims ≤ 255 := by have := HN.out; show 0 < t.dims - k ∧ t.dims - k ≤ 255; omega
      generalize cutBy s (k : Int) = s' at *
      generalize cutBy t (k : Int) = t' at *
      have c0 := HW.out.1.s0
      have c1 := HW.out.1.t0
      have f0 := HW.out.1.fs 0
      have f1 := HW.out.1.ft 0
      have d1 := decide_eq_true hb1.1
      have d2 := decide_eq_true hb2.1
      have w1 : wrap64 (s'.dims - 1) = s'.dims - 1 := by unfold wrap64; omega
      have w2 : wrap64 (t'.dims - 1) = t'.dims - 1 := by unfold wrap64; omega
      have g1 : (wr.setCell ⟨w.heap.size, 0, none⟩ (.int .i64 (s'.dims - 1))).cell? ⟨w.heap.size + 1, 0, none⟩ = some (.int .i64 t'.dims) := (setCell_off (by omega)).trans c1
      go_wp2
      go_roundg (n - (k + 1))
      case measure => have := hk.out; omega
      case rel => exact ⟨k + 1, Lib.hid (by have := hk.out; omega), Lib.hid ⟨by rw [← HCS, ← HCT]; exact HW.out.1.dec _ _, (HW.out.2.setCell (Nat.le_refl _) _).setCell (Nat.le_succ _) _⟩⟩
    · have hkn : k = n := by have := hk.out; omega
      have HE : Hid ((0 < (cutBy s (n : Int)).dims → ¬ 0 < (cutBy t (n : Int)).dims) ∧ 0 ≤ (cutBy s (n : Int)).dims ∧ 0 ≤ (cutBy t (n : Int)).dims) := Lib.hid (by
        have := HN.out
        show (0 < s.dims - n → ¬ 0 < t.dims - n) ∧ 0 ≤ s.dims - n ∧ 0 ≤ t.dims - n
        omega)
      rw [hkn] at HW
      have HT1 := Lib.hid HW.out.1
      have HB1 := Lib.hid HW.out.2
      have HR1 : Hid (R = baseM m (cutBy s (n : Int)) (cutBy t (n : Int))) := HR0
      clear HW hk HN HR0 hlt hkn HT0 HBA
      generalize cutBy s (n : Int) = s' at *
      generalize cutBy t (n : Int) = t' at *
      have s0 := HT1.out.s0
      have s1 := HT1.out.s1
      have t0 := HT1.out.t0
      have t1 := HT1.out.t1
      have HIS := Lib.hid (fun wr => IsInt s' wr)
      have HIT := Lib.hid (fun wr => IsInt t' wr)
      unfold TyM.val at HIS HIT
      by_cases hp : 0 < s'.dims
      · have hq := HE.out.1 hp
        have dp := decide_eq_true hp
        have dq := decide_eq_false hq
        have his : isIntM s' = false := by
          unfold isIntM
          have : (s'.dims == 0) = false := by simp; omega
          rw [this, Bool.false_and]
        rw [his] at HIS
        go_wp2_with fail
        refine (HIS.out _).mono ?_
        rintro _ w2 ⟨rfl, hb⟩
        have HT2 := Lib.hid (HT1.out.next hb)
        have HB2 := Lib.hid (HB1.out.trans (hb.mono HB1.out.size))
        clear hb HIS s0 s1 t0 t1
        have s0 := HT2.out.s0
        have s1 := HT2.out.s1
        have t0 := HT2.out.t0
        have t1 := HT2.out.t1
        cases hit : isIntM t' with
        | true =>
          rw [hit] at HIT
          go_wp2_with fail
          refine (HIT.out _).mono ?_
          rintro _ w3 ⟨rfl, hb⟩
          have HT3 := Lib.hid (HT2.out.next hb)
          have HB3 := Lib.hid (HB2.out.trans (hb.mono HB2.out.size))
          clear hb HIT s0 s1 t0 t1
          have s0 := HT3.out.s0
          have s1 := HT3.out.s1
          have t0 := HT3.out.t0
          have t1 := HT3.out.t1
          have HRE : Hid (R = eqT s' t') := Lib.hid (by rw [HR1.out]; unfold baseM; rw [if_pos (by rw [his, hit]; rfl)])
          unfold eqT at HRE
          clear hit his HR1
          cases e1 : (s'.dims == t'.dims)
          all_goals
            cases e2 : (s'.name.toList == t'.name.toList)
            all_goals
              rw [e1, e2] at HRE
              go_wp2
              go_ret
              exact ⟨by rw [HRE.out]; rfl, HB3.out⟩
        | false =>
          rw [hit] at HIT
          have HRE : Hid (R = topB t'.name) := Lib.hid (by rw [HR1.out]; unfold baseM; rw [if_neg (by rw [hit, his]; decide), if_pos hp])
          clear HR1 hit his
          go_wp2_with fail
          refine (HIT.out _).mono ?_
          rintro _ w3 ⟨rfl, hb⟩
          have HT3 := Lib.hid (HT2.out.next hb)
          have HB3 := Lib.hid (HB2.out.trans (hb.mono HB2.out.size))
          clear hb HIT s0 s1 t0 t1
          have s0 := HT3.out.s0
          have s1 := HT3.out.s1
          have t0 := HT3.out.t0
          have t1 := HT3.out.t1
          go_wp2_with fail
          refine (ATop _ _).mono ?_
          rintro _ w4 ⟨rfl, rfl⟩
          go_wp2
          go_ret
          exact ⟨by rw [HRE.out]; rfl, HB3.out⟩
      · have dp := decide_eq_false hp
        have HPN := Lib.hid hp
        clear hp
        cases his : isIntM s' with
        | true =>
          have hit : isIntM s' = true := his
          rw [his] at HIS
          go_wp2_with fail
          refine (HIS.out _).mono ?_
          rintro _ w2 ⟨rfl, hb⟩
          have HT2 := Lib.hid (HT1.out.next hb)
          have HB2 := Lib.hid (HB1.out.trans (hb.mono HB1.out.size))
          clear hb HIS s0 s1 t0 t1
          have s0 := HT2.out.s0
          have s1 := HT2.out.s1
          have t0 := HT2.out.t0
          have t1 := HT2.out.t1
          have HRE : Hid (R = eqT s' t') := Lib.hid (by rw [HR1.out]; unfold baseM; rw [if_pos (by rw [hit]; rfl)])
          unfold eqT at HRE
          clear hit his HR1
          cases e1 : (s'.dims == t'.dims)
          all_goals
            cases e2 : (s'.name.toList == t'.name.toList)
            all_goals
              rw [e1, e2] at HRE
              go_wp2
              go_ret
              exact ⟨by rw [HRE.out]; rfl, HB2.out⟩
        | false =>
          rw [his] at HIS
          go_wp2_with fail
          refine (HIS.out _).mono ?_
          rintro _ w2 ⟨rfl, hb⟩
          have HT2 := Lib.hid (HT1.out.next hb)
          have HB2 := Lib.hid (HB1.out.trans (hb.mono HB1.out.size))
          clear hb HIS s0 s1 t0 t1
          have s0 := HT2.out.s0
          have s1 := HT2.out.s1
          have t0 := HT2.out.t0
          have t1 := HT2.out.t1
          cases hit : isIntM t' with
          | true =>
            rw [hit] at HIT
            go_wp2_with fail
            refine (HIT.out _).mono ?_
            rintro _ w3 ⟨rfl, hb⟩
            have HT3 := Lib.hid (HT2.out.next hb)
            have HB3 := Lib.hid (HB2.out.trans (hb.mono HB2.out.size))
            clear hb HIT s0 s1 t0 t1
            have s0 := HT3.out.s0
            have s1 := HT3.out.s1
            have t0 := HT3.out.t0
            have t1 := HT3.out.t1
            have HRE : Hid (R = eqT s' t') := Lib.hid (by rw [HR1.out]; unfold baseM; rw [if_pos (by rw [his, hit]; rfl)])
            unfold eqT at HRE
            clear hit his HR1
            cases e1 : (s'.dims == t'.dims)
            all_goals
              cases e2 : (s'.name.toList == t'.name.toList)
              all_goals
                rw [e1, e2] at HRE
                go_wp2
                go_ret
                exact ⟨by rw [HRE.out]; rfl, HB3.out⟩
          | false =>
            rw [hit] at HIT
            by_cases hq : 0 < t'.dims
            · have dq := decide_eq_true hq
              have HQN := Lib.hid hq
              clear hq
              have HRE : Hid (R = false) := Lib.hid (by rw [HR1.out]; unfold baseM; rw [if_neg (by rw [hit, his]; decide), if_neg (Int.not_lt.2 HPN.out), if_pos HQN.out])
              clear HR1 hit his
              go_wp2_with fail
              refine (HIT.out _).mono ?_
              rintro _ w3 ⟨rfl, hb⟩
              have HT3 := Lib.hid (HT2.out.next hb)
              have HB3 := Lib.hid (HB2.out.trans (hb.mono HB2.out.size))
              clear hb HIT s0 s1 t0 t1
              have s0 := HT3.out.s0
              have s1 := HT3.out.s1
              have t0 := HT3.out.t0
              have t1 := HT3.out.t1
              go_wp2
              go_ret
              exact ⟨by rw [HRE.out]; rfl, HB3.out⟩
            · have dq := decide_eq_false hq
              have HQN := Lib.hid hq
              clear hq
              have HRE : Hid (R = extM m (byNameM m s'.name).1 (byNameM m t'.name).1) := Lib.hid (by rw [HR1.out]; unfold baseM; rw [if_neg (by rw [hit, his]; decide), if_neg (Int.not_lt.2 HPN.out), if_neg HQN.out])
              clear HR1 hit his
              go_wp2_with fail
              refine (HIT.out _).mono ?_
              rintro _ w3 ⟨rfl, hb⟩
              have HT3 := Lib.hid (HT2.out.next hb)
              have HB3 := Lib.hid (HB2.out.trans (hb.mono HB2.out.size))
              clear hb HIT s0 s1 t0 t1
              have s0 := HT3.out.s0
              have s1 := HT3.out.s1
              have t0 := HT3.out.t0
              have t1 := HT3.out.t1
              have HNS := Lib.hid (ByName (HH.out w3 HB3.out).hw s'.name HSN.out.1)
              have HNT := Lib.hid (ByName (HH.out w3 HB3.out).hw t'.name HSN.out.2)
              have HX := Lib.hid ((HH.out w3 HB3.out).extends (byNameM m s'.name).1 (byNameM m t'.name).1)
              generalize byNameM m s'.name = bs at *
              generalize byNameM m t'.name = bt at *
              go_wp2_with fail
              refine HNS.out.mono ?_
              rintro _ w4 ⟨rfl, rfl⟩
              go_wp2_with fail
              refine HNT.out.mono ?_
              rintro _ w5 ⟨rfl, rfl⟩
              go_wp2_with fail
              refine HX.out.mono ?_
              rintro _ w6 ⟨rfl, hb⟩
              have HB4 := Lib.hid (HB3.out.trans (hb.mono HB3.out.size))
              clear hb
              go_wp2
              go_ret
              exact ⟨by rw [HRE.out]; rfl, HB4.out⟩

theorem idxT0 (a b c d : Value) (w : World) : (Instr.index 107 (.agg #[a, b, c, d]) (.int .i64 0)).run Tryz.prog w = .ok (.agg #[a, b]) w := by kernel_rfl
theorem idxT1 (a b c d : Value) (w : World) : (Instr.index 107 (.agg #[a, b, c, d]) (.int .i64 1)).run Tryz.prog w = .ok (.agg #[c, d]) w := by kernel_rfl
theorem idxI0 (a b : Value) (w : World) : (Instr.index 127 (.agg #[a, b]) (.int .i64 0)).run Tryz.prog w = .ok a w := by kernel_rfl
theorem idxI1 (a b : Value) (w : World) : (Instr.index 127 (.agg #[a, b]) (.int .i64 1)).run Tryz.prog w = .ok b w := by kernel_rfl
attribute [local go_sem ↓] idxT0 idxT1

/-- Sub, of types that are there. -/
theorem ASub {B bw : Nat} {w0 w : World} {m : List EntM} (h : Built B bw w0 w m) (s t : TyM) (hs : s.name.size ≤ maxLen) (ht : t.name.size ≤ maxLen) (he : Lf.Env w) (hls : loadedE m s = 0) (hlt : loadedE m t = 0) :
    Calls Tryz.prog 25 #[.pointer (some ⟨bw, 0, none⟩), .agg #[.int .i64 s.dims, .string s.name], .agg #[.int .i64 t.dims, .string t.name]] w fun e w' => e = .returned (.tuple #[.bool (belowM m s t), .int .i64 0]) ∧ Below w.heap.size w w' := by
  have HT0 := Lib.hid (TwoT.start w s t)
  obtain ⟨wa, hwa⟩ : ∃ wa, ((w.alloc (.cells #[.int .i64 s.dims, .string s.name] 33)).alloc (.cells #[.int .i64 t.dims, .string t.name] 33)) = wa := ⟨_, rfl⟩
  rw [hwa] at HT0
  have HBA : Hid (Below w.heap.size w wa) := Lib.hid (by rw [← hwa]; exact ((Below.refl _ _).alloc (Nat.le_refl _) _).alloc (by simp) _)
  have HL : Hid (∀ x, x = s ∨ x = t → ∀ wr, Below w.heap.size w wr → Calls Tryz.prog 50 #[.pointer (some ⟨bw, 0, none⟩), .agg #[.int .i64 x.dims, .string x.name]] wr fun e w' => e = .returned (.int .i64 0) ∧ Below wr.heap.size wr w') := Lib.hid (fun x hx wr hr => by
    rcases hx with rfl | rfl
    · have := Loaded (h.next hr) x hs (he.below hr)
      rw [hls] at this
      exact this
    · have := Loaded (h.next hr) x ht (he.below hr)
      rw [hlt] at this
      exact this)
  have HBE := Lib.hid (fun wr (hr : Below w.heap.size w wr) => ABelow (h.next hr) s t hs ht (tyOk_dims (loaded_tyOk hls)) (tyOk_dims (loaded_tyOk hlt)))
  obtain ⟨R, hR⟩ : ∃ R, belowM m s t = R := ⟨_, rfl⟩
  rw [hR] at HBE ⊢
  clear h hR hs ht hls hlt he
  have s0 := HT0.out.s0
  have s1 := HT0.out.s1
  have t0 := HT0.out.t0
  have t1 := HT0.out.t1
  go_enter Tryz.func25, Tryz.ntmps25
  go_wp2_with fail
  try rw [hwa]
  clear hwa
  go_loopg [14] 2 (fun gk u wr => ∃ k : Nat, Hid (k + gk = 2) ∧ u = .int .i64 k ∧ Hid (Below w.heap.size w wr ∧ TwoT w.heap.size wr s t))
  case atStart => exact ⟨0, Lib.hid rfl, rfl, Lib.hid ⟨HBA.out, HT0.out⟩⟩
  case round =>
    obtain ⟨k, hk, rfl, HW⟩ := hrel
    clear s0 s1 t0 t1 HT0 HBA
    have c0 := HW.out.2.s0
    have c1 := HW.out.2.s1
    have c2 := HW.out.2.t0
    have c3 := HW.out.2.t1
    by_cases hlt : k < 2
    · have HK : Hid (k = 0 ∨ k = 1) := Lib.hid (by omega)
      have HKG : Hid (k + gk = 2) := hk
      rcases HK.out with rfl | rfl
      · clear hk hlt
        obtain ⟨wb, hwb⟩ : ∃ wb, (wr.alloc (.cells #[.int .i64 s.dims, .string s.name] 33)) = wb := ⟨_, rfl⟩
        have hbb : Below wr.heap.size wr wb := by rw [← hwb]; exact (Below.refl _ _).alloc (Nat.le_refl _) _
        have x0 : wb.cell? ⟨wr.heap.size, 0, none⟩ = some (.int .i64 s.dims) := by rw [← hwb]; exact World.cell?_alloc_new ..
        have x1 : wb.cell? ⟨wr.heap.size, 1, none⟩ = some (.string s.name) := by rw [← hwb]; exact World.cell?_alloc_new ..
        have HBB := Lib.hid (HW.out.1.trans (hbb.mono HW.out.1.size))
        have HTB := Lib.hid (HW.out.2.next hbb)
        have HX := Lib.hid (HL.out s (.inl rfl) wb HBB.out)
        clear hbb HW
        go_wp2_with fail
        try rw [hwb]
        clear hwb
        refine HX.out.mono ?_
        rintro _ w2 ⟨rfl, hb⟩
        have HB2 := Lib.hid (HBB.out.trans (hb.mono HBB.out.size))
        have HT2 := Lib.hid (HTB.out.next hb)
        clear hb HX HBB HTB x0 x1
        go_wp2
        go_roundg 1
        case measure => have := HKG.out; omega
        case rel => exact ⟨1, Lib.hid rfl, by go_num, Lib.hid ⟨HB2.out, HT2.out⟩⟩
      · clear hk hlt
        obtain ⟨wb, hwb⟩ : ∃ wb, (wr.alloc (.cells #[.int .i64 t.dims, .string t.name] 33)) = wb := ⟨_, rfl⟩
        have hbb : Below wr.heap.size wr wb := by rw [← hwb]; exact (Below.refl _ _).alloc (Nat.le_refl _) _
        have x0 : wb.cell? ⟨wr.heap.size, 0, none⟩ = some (.int .i64 t.dims) := by rw [← hwb]; exact World.cell?_alloc_new ..
        have x1 : wb.cell? ⟨wr.heap.size, 1, none⟩ = some (.string t.name) := by rw [← hwb]; exact World.cell?_alloc_new ..
        have HBB := Lib.hid (HW.out.1.trans (hbb.mono HW.out.1.size))
        have HTB := Lib.hid (HW.out.2.next hbb)
        have HX := Lib.hid (HL.out t (.inr rfl) wb HBB.out)
        clear hbb HW
        go_wp2_with fail
        try rw [hwb]
        clear hwb
        refine HX.out.mono ?_
        rintro _ w2 ⟨rfl, hb⟩
        have HB2 := Lib.hid (HBB.out.trans (hb.mono HBB.out.size))
        have HT2 := Lib.hid (HTB.out.next hb)
        clear hb HX HBB HTB x0 x1
        go_wp2
        go_roundg 0
        case measure => have := HKG.out; omega
        case rel => exact ⟨2, Lib.hid rfl, by go_num, Lib.hid ⟨HB2.out, HT2.out⟩⟩
    · have hk2 : (k : Int) = 2 := by have := hk.out; omega
      have HX := Lib.hid (HBE.out wr HW.out.1)
      have HB := Lib.hid HW.out.1
      rw [hk2]
      clear HW
      go_wp2_with fail
      refine HX.out.mono ?_
      rintro _ w2 ⟨rfl, hb⟩
      have HB2 := Lib.hid (HB.out.trans (hb.mono HB.out.size))
      clear hb
      go_wp2
      go_ret2
      exact ⟨rfl, HB2.out⟩
end Go.Proofs.YtiiebakblkpkeaaGreatDoor.Hi
