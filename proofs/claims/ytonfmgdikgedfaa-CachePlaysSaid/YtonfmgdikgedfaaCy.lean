/- Caches: find, first, the number of a set. -/
import Derived.Test.YtonfmgdikgedfaaCx
import Derived.Deep.QuietTactic
import Derived.BigQuiet
import Derived.BigRegion
import Derived.Deep.LoopGhost
import Derived.LoopTactic
import Derived.Deep.RegionHeld3
import Derived.Outline
set_option maxRecDepth 100000
set_option maxHeartbeats 1000000
set_option linter.unusedVariables false
set_option linter.unusedSimpArgs false
namespace Go.Proofs.Ytonfmgdikgedfaa.Cm
open Go.RowKit Bs Go.Lib

/-- The place of a key, or -1. -/
def plc (s : List KV) (k : Int) : Int := match s.findIdx? (fun e => e.1 == k) with | some i => (i : Int) | none => -1

theorem Find1 {w : World} {q : Nat} (e : KV) (key : Int) (hq : w.cell? ⟨q, 0, none⟩ = some (.int .i64 key)) :
    Calls Try.prog 132 #[.agg #[.int .i64 e.1, .int .i64 e.2], .pointer (some ⟨q, 0, none⟩)] w fun r w' => r = .returned (.bool (e.1 == key)) ∧ Below w.heap.size w w' := by
  have g := alloc_old (x := .cells #[.int .i64 e.1, .int .i64 e.2] 113) hq
  have HB := Lib.hid ((Below.refl w.heap.size w).alloc (Nat.le_refl _) (.cells #[.int .i64 e.1, .int .i64 e.2] 113))
  clear hq
  go_enter Try.func132, Try.ntmps132
  go_wp2
  go_ret
  exact ⟨rfl, HB.out⟩

theorem SetAt.elem {w : World} {a : Option Addr} {cap : Nat} {s : List KV} (h : SetAt w (.slice a s.length cap) s) {k : Nat} (hk : k < s.length) : ∃ b, a = some ⟨b, 0, none⟩ ∧ w.cell? ⟨b, k * 2, none⟩ = some (.int .i64 s[k].1) ∧ w.cell? ⟨b, k * 2 + 1, none⟩ = some (.int .i64 s[k].2) := by
  rcases h.form with ⟨_, h1⟩ | ⟨b, c, e, hr⟩
  · subst h1; simp at hk
  · injection e with e1 e2 e3
    subst e1
    exact ⟨b, rfl, hr.cells _ _ (ents_at s k hk).1, hr.cells _ _ (ents_at s k hk).2⟩
theorem SetAt.below {w w' : World} {v : Value} {s : List KV} (h : SetAt w v s) (hb : Below w.heap.size w w') : SetAt w' v s :=
  h.of_block fun k hk => hb.block k (h.lt hk)

theorem IdxE {w : World} {a : Option Addr} {cap : Nat} {s : List KV} (key : Int) {q : Nat} (hq : w.cell? ⟨q, 0, none⟩ = some (.int .i64 key)) (hm : SetAt w (.slice a s.length cap) s) (hs : s.length ≤ 2) :
    Calls Try.prog 131 #[.slice a s.length cap, .func (.func 132) #[] #[.pointer (some ⟨q, 0, none⟩)]] w fun e w' => e = .returned (.int .i64 (plc s key)) ∧ Below w.heap.size w w' := by
  have HM := Lib.hid hm
  have HQ := Lib.hid hq
  clear hm hq
  go_enter Try.func131, Try.ntmps131
  go_wp2_with fail
  go_loopg [5, 8] s.length (fun gk _ u wr => ∃ k : Nat, Hid (k + gk = s.length ∧ ∀ j (h : j < s.length), j < k → (s[j].1 == key) = false) ∧ u = .int .i64 k ∧ Hid (Below w.heap.size w wr))
  case atStart => exact ⟨0, Lib.hid ⟨Nat.zero_add _, fun j h hj => by omega⟩, rfl, Lib.hid (Below.refl _ _)⟩
  case round =>
    obtain ⟨k, hk, rfl, hB⟩ := hrel
    by_cases hlt : k < s.length
    · have hlt' : (k : Int) < (s.length : Int) := by omega
      obtain ⟨b, rfl, g0, g1⟩ := (HM.out.below hB.out).elem hlt
      have HHIT : Hid ((s[k].1 == key) = true → plc s key = (k : Int)) := Lib.hid fun h => by
        unfold plc
        rw [List.findIdx?_eq_some_iff_getElem.2 ⟨hlt, h, fun j hj => by simp [hk.out.2 j (by omega) hj]⟩]
      have HNEXT : Hid ((s[k].1 == key) = false → ∀ j (h : j < s.length), j < k + 1 → (s[j].1 == key) = false) := Lib.hid fun h j hj hjk => by
        by_cases e : j = k
        · subst e; exact h
        · exact hk.out.2 j hj (by omega)
      have HC := Lib.hid (Find1 s[k] key (below_cell' hB.out HQ.out))
      generalize (s[k].1 == key) = hit at HHIT HNEXT HC
      generalize s[k] = x at g0 g1 HC
      go_wp2_with fail
      refine HC.out.mono ?_
      rintro e w1 ⟨rfl, hb1⟩
      have HB1 : Hid (Below w.heap.size w w1) := Lib.hid (hB.out.trans (hb1.mono hB.out.size))
      clear hb1 g0 g1
      cases hit
      · have G := Lib.hid (HNEXT.out rfl)
        go_wp2
        go_roundg (s.length - (k + 1))
        case measure => have := hk.out.1; omega
        case rel => exact ⟨k + 1, Lib.hid ⟨by omega, G.out⟩, by go_num, HB1⟩
      · have G := Lib.hid (HHIT.out rfl)
        go_wp2
        go_ret
        exact ⟨by rw [G.out]; rfl, HB1.out⟩
    · have F : Hid (plc s key = -1) := Lib.hid (by
        unfold plc
        rw [List.findIdx?_eq_none_iff.2 (fun x hx => by
          obtain ⟨j, hj, rfl⟩ := List.getElem_of_mem hx
          exact hk.out.2 j hj (by omega))])
      go_wp2
      go_ret
      exact ⟨by rw [F.out]; rfl, hB.out⟩

theorem FindE {w : World} {a : Option Addr} {cap : Nat} {s : List KV} (key : Int) (hm : SetAt w (.slice a s.length cap) s) (hs : s.length ≤ 2) :
    Calls Try.prog 126 #[.slice a s.length cap, .int .i64 key] w fun e w' => e = .returned (.int .i64 (plc s key)) ∧ Below w.heap.size w w' := by
  have hb : Below w.heap.size w (w.alloc (.cells #[.int .i64 key] 3)) := (Below.refl _ _).alloc (Nat.le_refl _) _
  have hc : (w.alloc (.cells #[.int .i64 key] 3)).cell? ⟨w.heap.size, 0, none⟩ = some (.int .i64 key) := World.cell?_alloc_new ..
  have HI := Lib.hid (IdxE key hc (hm.below hb) hs)
  have HB := Lib.hid hb
  clear hb hc hm
  go_enter Try.func126, Try.ntmps126
  go_wp2_with fail
  refine HI.out.mono ?_
  rintro e w1 ⟨rfl, hb⟩
  have HB1 := Lib.hid (HB.out.trans (hb.mono HB.out.size))
  clear hb HI
  go_wp2
  go_ret
  exact ⟨rfl, HB1.out⟩

theorem SetAt.slice {w : World} {v : Value} {s : List KV} (h : SetAt w v s) : ∃ a cap, v = .slice a s.length cap := by
  rcases h.form with ⟨rfl, rfl⟩ | ⟨b, c, rfl, _⟩
  · exact ⟨none, 0, rfl⟩
  · exact ⟨_, _, rfl⟩

/-- A set whose first entries are what is left, in front of which one is laid (behind a box and a variadic argument). -/
theorem front_at {w w1 : World} {v v1 : Value} {s : List KV} (e : KV) (ty : TypeId) (h1 : SetAt w1 v1 s) (hl : s.length ≤ 2) (ht : Turn w w1 v v1) :
    Calls Try.prog 134 #[v1, .int .i64 0, .slice (some ⟨w1.heap.size, 0, none⟩) 1 1] (w1.alloc (.cells #[.int .i64 e.1, .int .i64 e.2] ty)) fun r w' => ∃ v', r = .returned v' ∧ SetAt w' v' (e :: s) ∧ Turn w w' v v' := by
  have hb : Below w1.heap.size w1 (w1.alloc (.cells #[.int .i64 e.1, .int .i64 e.2] ty)) := (Below.refl _ _).alloc (Nat.le_refl _) _
  refine (Insert_front e (h1.below hb) hl (heap_alloc_new w1 _) (fun hk => absurd (h1.lt hk) (Nat.lt_irrefl _))).mono ?_
  rintro r w' ⟨v', rfl, h2, h3⟩
  refine ⟨v', rfl, h2, ht.trans ⟨?_, fun k hk => (h3.blk k hk).elim .inl fun h => .inr (Nat.le_trans hb.size h)⟩⟩
  exact (Chg.of_below hb).trans h3.chg fun k _ hk => hk

theorem first_none {w : World} {v : Value} {s : List KV} (e : KV) (h : SetAt w v s) (hl : s.length ≤ 2) :
    Calls Try.prog 127 #[v, .agg #[.int .i64 e.1, .int .i64 e.2], .int .i64 (-1)] w fun r w' => ∃ v', r = .returned v' ∧ SetAt w' v' (e :: s) ∧ Turn w w' v v' := by
  obtain ⟨a, cap, rfl⟩ := h.slice
  have hb : Below w.heap.size w (w.alloc (.cells #[.int .i64 e.1, .int .i64 e.2] 113)) := (Below.refl _ _).alloc (Nat.le_refl _) _
  have hi := fun ty => front_at e ty (h.below hb) hl ⟨Chg.of_below hb, fun k hk => .inl hk⟩
  simp only [World.size_alloc] at hi
  have HI := Lib.hid hi
  clear h hb hi
  go_enter Try.func127, Try.ntmps127
  go_wp2_with fail
  refine (HI.out _).mono ?_
  rintro r w1 ⟨v', rfl, h2, h3⟩
  obtain ⟨a', c', rfl⟩ := h2.slice
  have H2 := Lib.hid (And.intro h2 h3)
  clear h2 h3 HI
  go_wp2
  go_ret
  exact ⟨_, rfl, H2.out⟩

theorem first_del {w : World} {b cap : Nat} {s t : List KV} (e : KV) (i : Nat) (h : Row w b cap s) (hl : t.length ≤ 2) (hi : (i : Int) ≤ 1)
    (hd : ∀ W : World, W.heap[b]? = w.heap[b]? → Calls Try.prog 133 #[.slice (some ⟨b, 0, none⟩) s.length cap, .int .i64 i, .int .i64 ((i : Int) + 1)] W fun r w' => r = .returned (.slice (some ⟨b, 0, none⟩) t.length cap) ∧ Row w' b cap t ∧ Chg (fun k => k = b) W w') :
    Calls Try.prog 127 #[.slice (some ⟨b, 0, none⟩) s.length cap, .agg #[.int .i64 e.1, .int .i64 e.2], .int .i64 i] w fun r w' => ∃ v', r = .returned v' ∧ SetAt w' v' (e :: t) ∧ Turn w w' (.slice (some ⟨b, 0, none⟩) s.length cap) v' := by
  have hb : Below w.heap.size w (w.alloc (.cells #[.int .i64 e.1, .int .i64 e.2] 113)) := (Below.refl _ _).alloc (Nat.le_refl _) _
  have HD := Lib.hid (hd (w.alloc (.cells #[.int .i64 e.1, .int .i64 e.2] 113)) (hb.block _ h.lt))
  have HQ : Hid ((w.alloc (.cells #[.int .i64 e.1, .int .i64 e.2] 113)).cell? ⟨w.heap.size, 0, none⟩ = some (.int .i64 e.1) ∧ (w.alloc (.cells #[.int .i64 e.1, .int .i64 e.2] 113)).cell? ⟨w.heap.size, 1, none⟩ = some (.int .i64 e.2)) := Lib.hid ⟨World.cell?_alloc_new .., World.cell?_alloc_new ..⟩
  have HB := Lib.hid hb
  have HBL := Lib.hid (h.lt)
  have hi0 : (0 : Int) ≤ (i : Int) := by omega
  clear h hb hd
  go_enter Try.func127, Try.ntmps127
  go_wp2_with fail
  refine HD.out.mono ?_
  rintro r w1 ⟨rfl, hr, hc⟩
  have hne : (w.heap.size : Nat) ≠ b := by have := HBL.out; omega
  have g0 : w1.cell? ⟨w.heap.size, 0, none⟩ = some (.int .i64 e.1) := hc.cell_eq HQ.out.1 hne
  have g1 : w1.cell? ⟨w.heap.size, 1, none⟩ = some (.int .i64 e.2) := hc.cell_eq HQ.out.2 hne
  have HT : Hid (Turn w w1 (.slice (some ⟨b, 0, none⟩) s.length cap) (.slice (some ⟨b, 0, none⟩) t.length cap)) := Lib.hid ⟨(Chg.of_below HB.out).trans hc (fun k _ hk => by rw [hk]; rfl), fun k hk => .inl hk⟩
  have HI := Lib.hid (fun ty => front_at e ty hr.own hl HT.out)
  clear hr hc HD HQ hne
  go_wp2_with fail
  refine (HI.out _).mono ?_
  rintro r w2 ⟨v', rfl, h2, h3⟩
  obtain ⟨a', c', rfl⟩ := h2.slice
  have H2 := Lib.hid (And.intro h2 h3)
  clear h2 h3 HI
  go_wp2
  go_ret
  exact ⟨_, rfl, H2.out⟩

/-- first, at the place of a key. -/
theorem First {w : World} {v : Value} {s : List KV} (e : KV) (h : SetAt w v s) (hl : s.length ≤ 2) (hn : (s.map (·.1)).Nodup) :
    Calls Try.prog 127 #[v, .agg #[.int .i64 e.1, .int .i64 e.2], .int .i64 (plc s e.1)] w fun r w' => ∃ v', r = .returned v' ∧ SetAt w' v' (e :: wo s e.1) ∧ Turn w w' v v' := by
  have hrow : ∀ x r, s = x :: r → ∃ b cap, v = .slice (some ⟨b, 0, none⟩) s.length cap ∧ Row w b cap s := fun x r hx => by
    rcases h.form with ⟨_, h1⟩ | h1
    · rw [hx] at h1; cases h1
    · exact h1
  rcases s with _ | ⟨x, _ | ⟨y, _ | ⟨z, r⟩⟩⟩
  · exact first_none e h (Nat.zero_le _)
  · by_cases hx : x.1 = e.1
    · have e1 : plc [x] e.1 = ((0 : Nat) : Int) := by simp [plc, List.findIdx?_cons, hx]
      have e2 : wo [x] e.1 = [] := by simp [wo, hx]
      obtain ⟨b, cap, rfl, hr⟩ := hrow x [] rfl
      rw [e1, e2]
      exact first_del (t := []) e 0 hr (by simp) (by omega) fun W hW => Del10 (hr.of_block hW)
    · have e1 : plc [x] e.1 = -1 := by simp [plc, List.findIdx?_cons, hx]
      have e2 : wo [x] e.1 = [x] := by simp [wo, hx]
      rw [e1, e2]
      exact first_none e h (by simp)
  · by_cases hx : x.1 = e.1
    · have hy : y.1 ≠ e.1 := fun hy => by simp [hx, hy] at hn
      have e1 : plc [x, y] e.1 = ((0 : Nat) : Int) := by simp [plc, List.findIdx?_cons, hx]
      have e2 : wo [x, y] e.1 = [y] := by simp [wo, hx, hy]
      obtain ⟨b, cap, rfl, hr⟩ := hrow x [y] rfl
      rw [e1, e2]
      exact first_del (t := [y]) e 0 hr (by simp) (by omega) fun W hW => Del20 (hr.of_block hW)
    · by_cases hy : y.1 = e.1
      · have e1 : plc [x, y] e.1 = ((1 : Nat) : Int) := by simp [plc, List.findIdx?_cons, hx, hy]
        have e2 : wo [x, y] e.1 = [x] := by simp [wo, hx, hy]
        obtain ⟨b, cap, rfl, hr⟩ := hrow x [y] rfl
        rw [e1, e2]
        exact first_del (t := [x]) e 1 hr (by simp) (by omega) fun W hW => Del21 (hr.of_block hW)
      · have e1 : plc [x, y] e.1 = -1 := by simp [plc, List.findIdx?_cons, hx, hy]
        have e2 : wo [x, y] e.1 = [x, y] := by simp [wo, hx, hy]
        rw [e1, e2]
        exact first_none e h (by simp)
  · simp at hl

theorem setNo_eq (n : Nat) (hn : 0 < n) (k : Int) : (k.tmod n + n).tmod n = (setNo n k : Nat) := by
  have e1 := Int.tmod_eq_emod (a := k) (b := (n : Int))
  have h1 := Int.emod_lt_of_pos k (show (0 : Int) < (n : Int) by omega)
  have h2 := Int.emod_nonneg k (show (n : Int) ≠ 0 by omega)
  unfold setNo
  rw [Int.toNat_of_nonneg h2]
  have h3 : k.tmod n = k % n ∨ k.tmod n = k % n - n := by
    rw [e1]
    split
    · exact .inl (by omega)
    · exact .inr (by simp)
  rcases h3 with h3 | h3
  · rw [h3, Int.tmod_eq_emod_of_nonneg (by omega), Int.add_emod_right, Int.emod_emod_of_dvd _ (Int.dvd_refl _)]
  · rw [h3, Int.tmod_eq_emod_of_nonneg (by omega), show k % (n : Int) - n + n = k % n by omega, Int.emod_emod_of_dvd _ (Int.dvd_refl _)]

theorem tmod_fits (n : Nat) (hn : 0 < n) (k : Int) : -(n : Int) ≤ k.tmod n ∧ k.tmod n ≤ n := by
  have e1 := Int.tmod_eq_emod (a := k) (b := (n : Int))
  have h1 := Int.emod_lt_of_pos k (show (0 : Int) < (n : Int) by omega)
  have h2 := Int.emod_nonneg k (show (n : Int) ≠ 0 by omega)
  have h3 : k.tmod n = k % n ∨ k.tmod n = k % n - n := by
    rw [e1]
    split
    · exact .inl (by omega)
    · exact .inr (by simp)
  omega

theorem SetNo {w : World} {bs n : Nat} {ga : Option Addr} {cp : Nat} (key : Int) (h : w.cell? ⟨bs, 2, none⟩ = some (.slice ga n cp)) (hn : 0 < n) (hn' : n ≤ 32) :
    Calls Try.prog 125 #[.pointer (some ⟨bs, 0, none⟩), .int .i64 key] w fun e w' => e = .returned (.int .i64 (setNo n key : Nat)) ∧ w = w' := by
  obtain ⟨h1, h2⟩ := tmod_fits n hn key
  have HE := Lib.hid ((Int.tmod_eq_emod_of_nonneg (show (0 : Int) ≤ key.tmod n + n by omega)).symm.trans (setNo_eq n hn key))
  have hz : ¬ ((n : Int) = 0) := by omega
  have hl : -64 ≤ key.tmod n + n := by omega
  have hu : key.tmod n + n ≤ 64 := by omega
  go_enter Try.func125, Try.ntmps125
  go_wp2
  go_ret
  exact ⟨by rw [← HE.out]; rfl, rfl⟩
end Go.Proofs.Ytonfmgdikgedfaa.Cm
