/- Caches: the document's cache in memory. -/
import Derived.Test.YtonfmgdikgedfaaCr
import Derived.Test.YtonfmgdikgedfaaCu
import Derived.Maps.AppendAt
set_option maxRecDepth 100000
set_option maxHeartbeats 1000000
set_option linter.unusedVariables false
set_option linter.unusedSimpArgs false
namespace Go.Proofs.Ytonfmgdikgedfaa.Cm
open Go.RowKit Bs Go.Lib

/-- Ints in an own row. -/
def Num (w : World) (v : Value) (L : List Int) : Prop := w.ownsRow 0 3 1 v L.length (L.map (Value.int .i64))
theorem Num.nil (w : World) : Num w (.slice none 0 0) [] := World.ownsRow_nil _ _ _ _
theorem Num.slice {w : World} {v : Value} {L : List Int} (h : Num w v L) : ∃ a c, v = .slice a L.length c := by
  rcases h.2 with ⟨rfl, h0⟩ | ⟨q, cp, cur, rfl, _⟩
  · exact ⟨none, 0, by rw [h0]⟩
  · exact ⟨_, _, rfl⟩
theorem Num.elem {w : World} {a : Option Addr} {n c : Nat} {L : List Int} (h : Num w (.slice a n c) L) {j : Nat} (hj : j < L.length) : ∃ g, a = some ⟨g, 0, none⟩ ∧ w.cell? ⟨g, j, none⟩ = some (.int .i64 L[j]) := by
  rcases h.2 with ⟨e, h0⟩ | ⟨g, cap, cur, e, _, hg, hn, _, hs, ht⟩
  · omega
  · injection e with e1 e2 e3
    subst e1
    refine ⟨g, rfl, cell_blk hg ?_⟩
    have h3 : (cur.toList.take (L.length * 1))[j]? = some (.int .i64 L[j]) := by rw [ht]; simp [hj]
    rw [List.getElem?_take_of_lt (by omega)] at h3
    simpa using h3
theorem Num.same {w w' : World} {v : Value} {L : List Int} (h : Num w v L) (hb : ∀ k, v.ownBlock = some k → w'.heap[k]? = w.heap[k]?) : Num w' v L := own_same h hb
theorem Num.lt {w : World} {v : Value} {L : List Int} (h : Num w v L) {k : Nat} (hk : v.ownBlock = some k) : k < w.heap.size := by
  rcases h.2 with ⟨rfl, _⟩ | ⟨b, c, cur, rfl, _, hh, _⟩
  · cases hk
  · obtain rfl : b = k := by simpa [Value.ownBlock] using hk
    rcases Nat.lt_or_ge b w.heap.size with h | h
    · exact h
    · simp [Array.getElem?_eq_none h] at hh
theorem Num.below {w w' : World} {v : Value} {L : List Int} (h : Num w v L) (hb : Below w.heap.size w w') : Num w' v L := h.same fun k hk => hb.block k (h.lt hk)

theorem run_app1 {w : World} {v : Value} {L : List Int} {x : Int} (h : Num w v L) {q : Nat} (hq : w.cell? ⟨q, 0, none⟩ = some (.int .i64 x)) (hl : L.length ≤ 100000) (ty : TypeId) :
    ∃ v' w', (Builtin.append_ #[31, 31] ty #[v, .slice (some ⟨q, 0, none⟩) 1 1]).run Try.prog w = .ok v' w' ∧ Num w' v' (L ++ [x]) ∧ w.grownBy w' v.ownBlock ∧ (v'.ownBlock = v.ownBlock ∨ v'.ownBlock = some w.heap.size) := by
  obtain ⟨i0, hi, hz0, hz1, hz2⟩ := info_parts info_intC
  obtain ⟨v', w', h1, h2, h3, _, h5⟩ := run_append_own_at (P := Try.prog) w 0 31 ty 3 i0 _ 1 8 Try.underlying31 hi hz0 hz1 hz2 rfl (by decide) v L.length _ h ⟨q, 0, none⟩ 1 1 [.int .i64 x] rfl
    (fun j u hj => by
      rcases j with _ | j
      · obtain rfl : Value.int .i64 x = u := by simpa using hj
        exact hq
      · simp at hj) (by intro u hu; simp at hu; subst hu; rfl) (by unfold maxLen; omega) (by omega) (Nat.zero_le _)
  refine ⟨v', w', h1, ?_, h3, h5⟩
  unfold Num
  rw [List.length_append, List.map_append]
  exact h2

/-- The document's cache in memory: block bx; T: all its blocks. -/
structure RefAt (T : Nat → Prop) (w : World) (bx : Nat) (x : RM) : Prop where
  vs : ∃ kv vv, w.cell? ⟨bx, 1, none⟩ = some kv ∧ w.cell? ⟨bx, 2, none⟩ = some vv ∧ Num w kv (x.L.map (·.1)) ∧ Num w vv (x.L.map (·.2)) ∧ (∀ k, kv.ownBlock = some k → T k ∧ k ≠ bx) ∧ ∀ k, vv.ownBlock = some k → T k ∧ k ≠ bx
  cap : w.cell? ⟨bx, 0, none⟩ = some (.int .i64 x.n)
  ht : w.cell? ⟨bx, 3, none⟩ = some (.int .i64 x.hit)
  ms : w.cell? ⟨bx, 4, none⟩ = some (.int .i64 x.miss)
  thaw : ∀ j, w.frozen? ⟨bx, j, none⟩ = false
  own : T bx
  live : ∀ k, T k → k < w.heap.size
  small : x.n ≤ 64
  len : x.L.length ≤ 65
theorem RefAt.alike {T : Nat → Prop} {w w' : World} {bx : Nat} {x : RM} (h : RefAt T w bx x) (ha : ∀ k, T k → w'.heap[k]? = w.heap[k]?) (hs : w.heap.size ≤ w'.heap.size) : RefAt T w' bx x where
  vs := by
    obtain ⟨kv, vv, h1, h2, h3, h4, h5, h6⟩ := h.vs
    exact ⟨kv, vv, (World.cell?_of_block (w := w) (a := ⟨bx, 1, none⟩) (ha _ h.own)).trans h1, (World.cell?_of_block (w := w) (a := ⟨bx, 2, none⟩) (ha _ h.own)).trans h2, h3.same fun k hk => ha k (h5 k hk).1, h4.same fun k hk => ha k (h6 k hk).1, h5, h6⟩
  cap := (World.cell?_of_block (w := w) (a := ⟨bx, 0, none⟩) (ha _ h.own)).trans h.cap
  ht := (World.cell?_of_block (w := w) (a := ⟨bx, 3, none⟩) (ha _ h.own)).trans h.ht
  ms := (World.cell?_of_block (w := w) (a := ⟨bx, 4, none⟩) (ha _ h.own)).trans h.ms
  thaw := fun j => (World.frozen?_of_block (w := w) (a := ⟨bx, j, none⟩) (ha _ h.own)).trans (h.thaw j)
  own := h.own
  live := fun k hk => Nat.lt_of_lt_of_le (h.live k hk) hs
  small := h.small
  len := h.len
theorem RefAt.below {T : Nat → Prop} {w w' : World} {bx : Nat} {x : RM} (h : RefAt T w bx x) (hb : Below w.heap.size w w') : RefAt T w' bx x := h.alike (fun k hk => hb.block k (h.live k hk)) hb.size
/-- What a call on it leaves. -/
def RNext (T : Nat → Prop) (w w' : World) (bx : Nat) (x : RM) : Prop := ∃ T', RefAt T' w' bx x ∧ Chg T w w' ∧ ∀ k, T' k → T k ∨ w.heap.size ≤ k

theorem RSets {w : World} {bx n : Nat} (h : w.cell? ⟨bx, 0, none⟩ = some (.int .i64 n)) (hn : n ≤ 64) :
    Calls Try.prog 75 #[.pointer (some ⟨bx, 0, none⟩)] w fun e w' => e = .returned (.int .i64 (nSets n)) ∧ w = w' := by
  have hq : ((n : Int) + 1) / 2 = (nSets n : Int) := by unfold nSets; omega
  go_enter Try.func75, Try.ntmps75
  go_wp2
  go_ret
  exact ⟨rfl, rfl⟩

theorem RSet {w : World} {bx n : Nat} (h : w.cell? ⟨bx, 0, none⟩ = some (.int .i64 n)) (h0 : 0 < n) (hn : n ≤ 64) (key : Int) :
    Calls Try.prog 73 #[.pointer (some ⟨bx, 0, none⟩), .int .i64 key] w fun e w' => e = .returned (.int .i64 (setNo (nSets n) key : Nat)) ∧ w = w' := by
  have HS := Lib.hid (RSets h hn)
  have hp : 0 < nSets n ∧ nSets n ≤ 32 := by unfold nSets; omega
  obtain ⟨hp, hp2⟩ := hp
  generalize nSets n = m at HS hp hp2 ⊢
  obtain ⟨h1, h2⟩ := tmod_fits m hp key
  have hE : setNo m key = (if key.tmod m < 0 then key.tmod m + m else key.tmod m) := by
    have e := setNo_eq m hp key
    by_cases hz : key.tmod m < 0
    · rw [if_pos hz, ← e]
      exact Int.tmod_eq_of_lt (by omega) (by omega)
    · rw [if_neg hz]
      unfold setNo
      have : 0 ≤ key ∨ key.tmod m = 0 := by
        rcases Int.le_total 0 key with h | h
        · exact .inl h
        · right
          have := Int.tmod_nonneg (a := -key) (m : Int) (by omega)
          rw [Int.neg_tmod] at this
          omega
      rcases this with h | h
      · rw [Int.tmod_eq_emod_of_nonneg h]
        exact Int.toNat_of_nonneg (Int.emod_nonneg _ (by omega))
      · rw [h]
        rw [Int.emod_eq_zero_of_dvd (Int.dvd_of_tmod_eq_zero h)]
        rfl
  have hlt : key.tmod m < m := Int.tmod_lt_of_pos key (by omega)
  have hz : ¬ ((m : Int) = 0) := by omega
  have HE := Lib.hid hE
  clear hE h h0
  by_cases hr : key.tmod m < 0
  · rw [if_pos hr] at HE
    rw [HE.out]
    go_enter Try.func73, Try.ntmps73
    go_wp2_with fail
    refine HS.out.mono ?_
    rintro e w1 ⟨rfl, rfl⟩
    go_wp2_with fail
    refine HS.out.mono ?_
    rintro e w1 ⟨rfl, rfl⟩
    go_wp2
    go_ret
    exact ⟨rfl, rfl⟩
  · rw [if_neg hr] at HE
    rw [HE.out]
    go_enter Try.func73, Try.ntmps73
    go_wp2_with fail
    refine HS.out.mono ?_
    rintro e w1 ⟨rfl, rfl⟩
    go_wp2
    go_ret
    exact ⟨rfl, rfl⟩

/-- The first place of a key. -/
def place (L : List KV) (k : Int) : Nat := L.findIdx fun e => e.1 == k
def placeV (L : List KV) (k : Int) : Int := if place L k < L.length then (place L k : Int) else -1
theorem place_lt {L : List KV} {k : Int} {j : Nat} (h : j < place L k) : ∃ (hj : j < L.length), (L[j].1 == k) = false := by
  have h1 : j < L.length := Nat.lt_of_lt_of_le h List.findIdx_le_length
  refine ⟨h1, ?_⟩
  have := List.not_of_lt_findIdx h
  simpa using this
theorem place_at {L : List KV} {k : Int} (h : place L k < L.length) : (L[place L k].1 == k) = true := List.findIdx_getElem (p := fun e : KV => e.1 == k) (w := h)
theorem place_ent (L : List KV) (k : Int) : ent? L k = L[place L k]? := by
  induction L with
  | nil => rfl
  | cons y r ih =>
    unfold ent? place at *
    rw [List.find?_cons, List.findIdx_cons]
    cases h : (y.1 == k) with
    | true => simp
    | false => simp [ih]
/-- All but one place (none below 0). -/
def off (a : Int) (L : List KV) : List KV := if 0 ≤ a then L.eraseIdx a.toNat else L
theorem off_nil (a : Int) : off a [] = [] := by unfold off; split <;> simp
theorem off_snoc (a : Int) (L : List KV) (y : KV) : off a (L ++ [y]) = if (L.length : Int) = a then off a L else off a L ++ [y] := by
  unfold off
  by_cases h0 : 0 ≤ a
  · rw [if_pos h0, if_pos h0]
    by_cases h : (L.length : Int) = a
    · rw [if_pos h, show a.toNat = L.length by omega, List.eraseIdx_append_of_length_le (Nat.le_refl _), List.eraseIdx_of_length_le (Nat.le_refl _)]
      simp
    · rw [if_neg h]
      rcases Nat.lt_or_ge a.toNat L.length with h1 | h1
      · rw [List.eraseIdx_append_of_lt_length h1]
      · rw [List.eraseIdx_of_length_le (l := L) h1, List.eraseIdx_of_length_le]
        simp
        omega
  · rw [if_neg h0, if_neg h0, if_neg (by omega)]
theorem off_len (a : Int) (L : List KV) : (off a L).length ≤ L.length := by
  unfold off
  split
  · rw [List.length_eraseIdx]; split <;> omega
  · exact Nat.le_refl _
theorem off_place {L : List KV} (hn : (L.map (·.1)).Nodup) (k : Int) : off (placeV L k) L = wo L k := by
  have e1 : off (placeV L k) L = L.eraseIdx (place L k) := by
    unfold placeV off
    by_cases h : place L k < L.length
    · rw [if_pos h, if_pos (by omega)]
      simp
    · rw [if_neg h, if_neg (by omega), List.eraseIdx_of_length_le (by omega)]
  rw [e1]
  induction L with
  | nil => rfl
  | cons y r ih =>
    rw [List.map_cons, List.nodup_cons] at hn
    unfold place wo at *
    rw [List.findIdx_cons, List.filter_cons]
    cases h : (y.1 == k) with
    | true =>
      simp only [cond_true, List.eraseIdx_zero, List.tail_cons]
      rw [if_neg (by simp [bne, h])]
      symm
      rw [List.filter_eq_self]
      intro z hz
      simp only [bne_iff_ne, ne_eq]
      intro hk
      apply hn.1
      rw [show y.1 = z.1 from (beq_iff_eq.1 h).trans hk.symm]
      exact List.mem_map_of_mem hz
    | false =>
      simp only [cond_false, List.eraseIdx_cons_succ]
      rw [if_pos (by simp [bne, h]), ih hn.2 (by
        unfold placeV off place
        split
        · rw [if_pos (by omega)]; simp
        · rw [if_neg (by omega), List.eraseIdx_of_length_le (by omega)])]

theorem RRoom {w : World} {bx n : Nat} (h : w.cell? ⟨bx, 0, none⟩ = some (.int .i64 n)) (hn : n ≤ 64) (s : Nat) (hs : s ≤ 32) :
    Calls Try.prog 74 #[.pointer (some ⟨bx, 0, none⟩), .int .i64 s] w fun e w' => e = .returned (.int .i64 (roomAt n s : Nat)) ∧ w = w' := by
  have HS := Lib.hid (RSets h hn)
  have hp : nSets n ≤ 32 := by unfold nSets; omega
  have ho : ((n : Int) % 2 == 1) = decide (n % 2 = 1) := by
    by_cases h : n % 2 = 1
    · simp [h]; omega
    · simp [h]; omega
  have hs1 : ((s : Int) == (nSets n : Int) - 1) = decide (s + 1 = nSets n) := by
    by_cases h : s + 1 = nSets n
    · simp [h]; omega
    · simp [h]; omega
  have HR : Hid (roomAt n s = if n % 2 = 1 ∧ s + 1 = nSets n then 1 else 2) := Lib.hid rfl
  rw [HR.out]
  generalize nSets n = m at *
  by_cases h1 : n % 2 = 1
  · by_cases h2 : s + 1 = m
    · rw [if_pos ⟨h1, h2⟩]
      simp only [h1, h2, decide_true] at ho hs1
      go_enter Try.func74, Try.ntmps74
      go_wp2_with fail
      refine HS.out.mono ?_
      rintro e w1 ⟨rfl, rfl⟩
      go_wp2
      go_ret
      exact ⟨rfl, rfl⟩
    · rw [if_neg fun h => h2 h.2]
      simp only [h1, h2, decide_true, decide_false] at ho hs1
      go_enter Try.func74, Try.ntmps74
      go_wp2_with fail
      refine HS.out.mono ?_
      rintro e w1 ⟨rfl, rfl⟩
      go_wp2
      go_ret
      exact ⟨rfl, rfl⟩
  · rw [if_neg fun h => h1 h.1]
    simp only [h1, decide_false] at ho
    go_enter Try.func74, Try.ntmps74
    go_wp2
    go_ret
    exact ⟨rfl, rfl⟩

theorem RPlace {T : Nat → Prop} {w : World} {bx : Nat} {x : RM} (h : RefAt T w bx x) (key : Int) :
    Calls Try.prog 71 #[.pointer (some ⟨bx, 0, none⟩), .int .i64 key] w fun e w' => e = .returned (.int .i64 (placeV x.L key)) ∧ w = w' := by
  obtain ⟨kv, vv, g1, _, hk, _, _, _⟩ := h.vs
  have hl := h.len
  obtain ⟨a, c, rfl⟩ := hk.slice
  rw [List.length_map] at g1 hk
  have HK := Lib.hid hk
  clear hk h
  go_enter Try.func71, Try.ntmps71
  go_wp2_with fail
  go_loopg [5] (place x.L key) (fun gk u wr => ∃ i : Nat, Hid (i + gk = place x.L key) ∧ u = .int .i64 i ∧ w = wr)
  case atStart => exact ⟨0, Lib.hid (Nat.zero_add _), by go_num, rfl⟩
  case round =>
    obtain ⟨i, hi, rfl, rfl⟩ := hrel
    by_cases hlt : i < x.L.length
    · have hlt' : (i : Int) < (x.L.length : Int) := by omega
      have hi0 : (0 : Int) ≤ (i : Int) := by omega
      obtain ⟨g, rfl, m0⟩ := HK.out.elem (j := i) (by simpa using hlt)
      rw [List.getElem_map] at m0
      by_cases hp : i < place x.L key
      · obtain ⟨_, hne⟩ := place_lt hp
        generalize x.L[i] = y at m0 hne
        go_wp2
        go_roundg (place x.L key - (i + 1))
        case measure => have := hi.out; omega
        case rel => exact ⟨i + 1, Lib.hid (by have := hi.out; omega), by go_num, rfl⟩
      · have hE : i = place x.L key := by have := hi.out; omega
        have hne : (x.L[i].1 == key) = true := by
          have := place_at (L := x.L) (k := key) (by omega)
          simpa [← hE] using this
        have hV : placeV x.L key = i := by unfold placeV; rw [if_pos (by omega), hE]
        have HV := Lib.hid hV
        clear hi hV hE hp
        generalize x.L[i] = y at m0 hne
        go_wp2
        go_ret
        exact ⟨by rw [HV.out]; rfl, rfl⟩
    · have hE : ¬ place x.L key < x.L.length := by have := hi.out; omega
      have hV : placeV x.L key = -1 := by unfold placeV; rw [if_neg hE]
      have HV := Lib.hid hV
      clear hi hV
      go_wp2
      go_ret
      exact ⟨by rw [HV.out]; rfl, rfl⟩

/-- Two rows that grow beside each other. -/
structure Two (w wr : World) (K V : Value) (ks vs : List Int) : Prop where
  k : Num wr K ks
  v : Num wr V vs
  kb : ∀ q, K.ownBlock = some q → w.heap.size ≤ q
  vb : ∀ q, V.ownBlock = some q → w.heap.size ≤ q
  apart : ∀ q, K.ownBlock = some q → V.ownBlock ≠ some q
  bel : Below w.heap.size w wr
theorem Two.swap {w wr : World} {K V : Value} {ks vs : List Int} (h : Two w wr K V ks vs) : Two w wr V K vs ks := ⟨h.v, h.k, h.vb, h.kb, fun q h1 h2 => h.apart q h2 h1, h.bel⟩
theorem Two.left {w wr : World} {K V : Value} {ks vs : List Int} (h : Two w wr K V ks vs) (x : Int) (hl : ks.length ≤ 100000) (ty : TypeId) :
    ∃ K' w2, (Builtin.append_ #[31, 31] ty #[K, .slice (some ⟨wr.heap.size, 0, none⟩) 1 1]).run Try.prog (wr.alloc (.cells #[.int .i64 x] 3)) = .ok K' w2 ∧ Two w w2 K' V (ks ++ [x]) vs := by
  have hn := heap_alloc_new wr (.cells #[.int .i64 x] 3)
  have hb := h.bel.size
  obtain ⟨K', w2, h1, h2, h3, h4⟩ := run_app1 (h.k.below ((Below.refl _ _).alloc (Nat.le_refl _) (.cells #[.int .i64 x] 3))) (cell_blk hn rfl) hl ty
  have hc : Chg (fun q => K.ownBlock = some q) (wr.alloc (.cells #[.int .i64 x] 3)) w2 := (Chg.refl _ _).grown h3 fun q hq => .inr hq
  rw [World.size_alloc] at h4
  refine ⟨K', w2, h1, h2, ?_, fun q hq => ?_, h.vb, fun q hq => ?_, ?_⟩
  · exact (h.v.below ((Below.refl _ _).alloc (Nat.le_refl _) _)).same fun q hq => hc.block q (by have := h.v.lt hq; simp; omega) fun hk => h.apart q hk hq
  · rcases h4 with h4 | h4
    · exact h.kb q (h4 ▸ hq)
    · rw [h4] at hq
      have := Option.some.inj hq
      omega
  · rcases h4 with h4 | h4
    · exact h.apart q (h4 ▸ hq)
    · rw [h4] at hq
      intro hv
      have := h.v.lt hv
      have := Option.some.inj hq
      omega
  · exact (h.bel.alloc hb _).grown h3 (by simp; omega) fun q hq => h.kb q hq
/-- What stands in the two cells of the cache after it turned them. -/
theorem RefAt.turn {T : Nat → Prop} {w wr : World} {bx : Nat} {x : RM} (h : RefAt T w bx x) {K V : Value} {L : List KV} (ht : Two w wr K V (L.map (·.1)) (L.map (·.2))) (hl : L.length ≤ 65) :
    RNext T w ((wr.setCell ⟨bx, 1, none⟩ K).setCell ⟨bx, 2, none⟩ V) bx { x with L := L } := by
  have hlive := h.live bx h.own
  have hsz := ht.bel.size
  obtain ⟨kv, vv, h1, h2, _⟩ := h.vs
  have hne1 : ∀ q, K.ownBlock = some q → q ≠ bx := fun q hq e => by have := ht.kb q hq; omega
  have hne2 : ∀ q, V.ownBlock = some q → q ≠ bx := fun q hq e => by have := ht.vb q hq; omega
  refine ⟨fun k => T k ∨ K.ownBlock = some k ∨ V.ownBlock = some k, ⟨⟨K, V, ?_, ?_, ?_, ?_, fun k hk => ⟨.inr (.inl hk), hne1 k hk⟩, fun k hk => ⟨.inr (.inr hk), hne2 k hk⟩⟩, ?_, ?_, ?_, fun j => ?_, .inl h.own, fun k hk => ?_, h.small, hl⟩, ?_, fun k hk => ?_⟩
  · exact (setCell_off (by omega)).trans (setCell_same (below_cell' ht.bel h1))
  · exact setCell_same ((setCell_off (by omega)).trans (below_cell' ht.bel h2))
  · exact ht.k.same fun q hq => (heap_setCell_other _ _ _ _ (hne1 q hq)).trans (heap_setCell_other _ _ _ _ (hne1 q hq))
  · exact ht.v.same fun q hq => (heap_setCell_other _ _ _ _ (hne2 q hq)).trans (heap_setCell_other _ _ _ _ (hne2 q hq))
  · exact (setCell_off (by omega)).trans ((setCell_off (by omega)).trans (below_cell' ht.bel h.cap))
  · exact (setCell_off (by omega)).trans ((setCell_off (by omega)).trans (below_cell' ht.bel h.ht))
  · exact (setCell_off (by omega)).trans ((setCell_off (by omega)).trans (below_cell' ht.bel h.ms))
  · rw [World.frozen?_setCell, World.frozen?_setCell]
    exact (World.frozen?_of_block (w := w) (a := ⟨bx, j, none⟩) (ht.bel.block bx hlive)).trans (h.thaw j)
  · rcases hk with hk | hk | hk
    · have := h.live k hk; simp; omega
    · have := ht.k.lt hk; simpa using this
    · have := ht.v.lt hk; simpa using this
  · exact ((Chg.of_below ht.bel).setCell (a := ⟨bx, 1, none⟩) (.inr h.own) _).setCell (a := ⟨bx, 2, none⟩) (.inr h.own) _
  · rcases hk with hk | hk | hk
    · exact .inl hk
    · exact .inr (ht.kb k hk)
    · exact .inr (ht.vb k hk)

theorem RTake {T : Nat → Prop} {w : World} {bx : Nat} {x : RM} (h : RefAt T w bx x) (a : Int) (key val : Int) (hl : (off a x.L).length ≤ 64) :
    Calls Try.prog 72 #[.pointer (some ⟨bx, 0, none⟩), .int .i64 a, .int .i64 key, .int .i64 val] w fun e w' => e = .returned (.tuple #[]) ∧ RNext T w w' bx { x with L := (key, val) :: off a x.L } := by
  have HH := Lib.hid h
  obtain ⟨kv, vv, g1, g2, hk, hv, _, _⟩ := h.vs
  have hl64 := h.len
  obtain ⟨ka, kc, rfl⟩ := hk.slice
  obtain ⟨va, vc, rfl⟩ := hv.slice
  rw [List.length_map] at g1 g2 hk hv
  have HG := Lib.hid (And.intro g1 g2)
  have HK := Lib.hid hk
  have HV := Lib.hid hv
  have HZ := Lib.hid (And.intro (h.live _ h.own) h.thaw)
  have HL := Lib.hid hl
  have hn1 := heap_alloc_new w (.cells #[.int .i64 key] 3)
  have hn2 := heap_alloc_new (w.alloc (.cells #[.int .i64 key] 3)) (.cells #[.int .i64 val] 3)
  have hn1' : ((w.alloc (.cells #[.int .i64 key] 3)).alloc (.cells #[.int .i64 val] 3)).heap[w.heap.size]? = some (.cells #[.int .i64 key] 3 (0, 0)) := (Below.heap_alloc _ _ _ (by simp)).trans hn1
  have HT0 : Hid (Two w ((w.alloc (.cells #[.int .i64 key] 3)).alloc (.cells #[.int .i64 val] 3)) (.slice (some ⟨w.heap.size, 0, none⟩) 1 1) (.slice (some ⟨w.heap.size + 1, 0, none⟩) 1 1) (((key, val) :: off a (x.L.take 0)).map (·.1)) (((key, val) :: off a (x.L.take 0)).map (·.2))) := Lib.hid (by
    rw [List.take_zero, off_nil]
    rw [World.size_alloc] at hn2
    refine ⟨⟨rfl, .inr ⟨_, 1, _, rfl, Nat.zero_le _, hn1', ?_⟩⟩, ⟨rfl, .inr ⟨_, 1, _, rfl, Nat.zero_le _, hn2, ?_⟩⟩, fun q hq => ?_, fun q hq => ?_, fun q hq hq' => ?_, ((Below.refl _ _).alloc (Nat.le_refl _) _).alloc (by simp) _⟩
    · simp [maxLen]
    · simp [maxLen]
    · have : w.heap.size = q := by simpa [Value.ownBlock] using hq
      omega
    · have : w.heap.size + 1 = q := by simpa [Value.ownBlock] using hq
      omega
    · have h1 : w.heap.size = q := by simpa [Value.ownBlock] using hq
      have h2 : w.heap.size + 1 = q := by simpa [Value.ownBlock] using hq'
      omega)
  clear hk hv g1 g2 h hl hn1 hn2 hn1'
  go_enter Try.func72, Try.ntmps72
  go_wp2_with fail
  go_loopg [8, 9, 10] (x.L.length) (fun gk uk uv ui wr => ∃ i : Nat, Hid (i + gk = x.L.length) ∧ ui = .int .i64 i ∧ Hid (Two w wr uk uv (((key, val) :: off a (x.L.take i)).map (·.1)) (((key, val) :: off a (x.L.take i)).map (·.2))))
  case atStart => exact ⟨0, Lib.hid (Nat.zero_add _), by go_num, HT0⟩
  case round =>
    clear HT0
    obtain ⟨i, hi, rfl, HT⟩ := hrel
    have hsz := HT.out.bel.size
    have k1 := below_cell' HT.out.bel HG.out.1
    by_cases hlt : i < x.L.length
    · have hlt' : (i : Int) < (x.L.length : Int) := by omega
      have hi0 : (0 : Int) ≤ (i : Int) := by omega
      have HS := Lib.hid (off_snoc a (x.L.take i) x.L[i])
      rw [← List.take_succ_eq_append_getElem hlt, List.length_take, Nat.min_eq_left (by omega)] at HS
      by_cases hia : (i : Int) = a
      · rw [if_pos hia] at HS
        have HT2 := HT
        rw [← HS.out] at HT2
        subst hia
        clear HT HS
        go_wp2
        go_roundg (x.L.length - (i + 1))
        case measure => have := hi.out; omega
        case rel => exact ⟨i + 1, Lib.hid (by have := hi.out; omega), by go_num, HT2⟩
      · rw [if_neg hia] at HS
        obtain ⟨g, rfl, m0⟩ := HK.out.elem (j := i) (by simpa using hlt)
        obtain ⟨g', rfl, m1⟩ := HV.out.elem (j := i) (by simpa using hlt)
        rw [List.getElem_map] at m0 m1
        have hne : ((i : Int) != a) = true := by simp [hia]
        have hol := off_len a (x.L.take i)
        have hol2 : (x.L.take i).length ≤ 65 := by rw [List.length_take]; omega
        obtain ⟨K', w2, hrun1, ht2⟩ := HT.out.left x.L[i].1 (by simp; omega) 31
        obtain ⟨V', w3, hrun2, ht3⟩ := ht2.swap.left x.L[i].2 (by simp; omega) 31
        have HT3 : Hid (Two w w3 K' V' (((key, val) :: off a (x.L.take (i + 1))).map (·.1)) (((key, val) :: off a (x.L.take (i + 1))).map (·.2))) := Lib.hid (by
          have := ht3.swap
          rw [HS.out]
          simpa using this)
        have k0 := below_cell' HT.out.bel m0
        have k2 := below_cell' ht2.bel HG.out.2
        have k3 := below_cell' ht2.bel m1
        generalize x.L[i] = y at *
        clear m0 m1 ht2 ht3 HS hol hol2 HT
        go_wp2_with (at_builtin; first | refine Lib.wpList_append_run _ rfl _ _ _ _ rfl _ _ rfl rfl _ _ hrun1 ?_ | refine Lib.wpList_append_run _ rfl _ _ _ _ rfl _ _ rfl rfl _ _ hrun2 ?_)
        go_roundg (x.L.length - (i + 1))
        case measure => have := hi.out; omega
        case rel => exact ⟨i + 1, Lib.hid (by have := hi.out; omega), by go_num, HT3⟩
    · have hE : i = x.L.length := by have := hi.out; omega
      have HT2 : Hid (Two w wr _ _ (((key, val) :: off a x.L).map (·.1)) (((key, val) :: off a x.L).map (·.2))) := Lib.hid (by
        have := HT.out
        rw [hE, List.take_length] at this
        exact this)
      have k2 := below_cell' HT.out.bel HG.out.2
      have z : ∀ j, wr.frozen? ⟨bx, j, none⟩ = false := fun j => (World.frozen?_of_block (w := w) (a := ⟨bx, j, none⟩) (HT.out.bel.block bx HZ.out.1)).trans (HZ.out.2 j)
      have z1 := z 1
      have z2 := z 2
      clear hi HT hE z
      obtain ⟨sa, sc, rfl⟩ := HT2.out.k.slice
      obtain ⟨sa', sc', rfl⟩ := HT2.out.v.slice
      generalize (List.map (fun y : KV => y.1) ((key, val) :: off a x.L)).length = n1 at *
      generalize (List.map (fun y : KV => y.2) ((key, val) :: off a x.L)).length = n2 at *
      go_wp2
      go_end0
      exact ⟨rfl, HH.out.turn HT2.out (by simp; have := HL.out; omega)⟩
end Go.Proofs.Ytonfmgdikgedfaa.Cm
