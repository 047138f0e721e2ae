/- Caches: a set in memory. -/
import Derived.Test.YtonfmgdikgedfaaCi
import Derived.Test.YtonfmgdikgedfaaCr
import Derived.Maps.AppendAt
set_option maxRecDepth 100000
set_option maxHeartbeats 1000000
set_option linter.unusedVariables false
set_option linter.unusedSimpArgs false
namespace Go.Proofs.Ytonfmgdikgedfaa.Cm
open Go.RowKit Bs Go.Lib

def kvCells (e : KV) : List Value := [.int .i64 e.1, .int .i64 e.2]
/-- The cells of entries. -/
def ents (s : List KV) : List Value := (s.map kvCells).flatten
theorem ents_len (s : List KV) : (ents s).length = s.length * 2 := by
  unfold ents
  induction s with
  | nil => rfl
  | cons e r ih => rw [List.map_cons, List.flatten_cons, List.length_append, ih, List.length_cons]; simp [kvCells]; omega
theorem ents_cons (e : KV) (s : List KV) : ents (e :: s) = kvCells e ++ ents s := rfl
theorem ents_one (s : List KV) : ∀ v ∈ ents s, v.oneCell' = true := by
  intro v hv
  obtain ⟨l, hl, hv⟩ := List.mem_flatten.1 hv
  obtain ⟨e, _, rfl⟩ := List.mem_map.1 hl
  simp only [kvCells, List.mem_cons, List.not_mem_nil, or_false] at hv
  rcases hv with rfl | rfl <;> rfl
theorem ents_at : ∀ (s : List KV) (i : Nat) (h : i < s.length), (ents s)[i * 2]? = some (.int .i64 s[i].1) ∧ (ents s)[i * 2 + 1]? = some (.int .i64 s[i].2)
  | [], _, h => by simp at h
  | p :: r, 0, _ => by simp [ents, kvCells]
  | p :: r, i + 1, h => by
    have := ents_at r i (by simpa using h)
    have e : ∀ j, (ents (p :: r))[(i + 1) * 2 + j]? = (ents r)[i * 2 + j]? := fun j => by
      rw [ents_cons, List.getElem?_append_right (by simp [kvCells]; omega)]
      congr 1
      simp [kvCells]; omega
    exact ⟨(e 0).trans this.1, (e 1).trans this.2⟩

/-- A set in memory: nil, or a row of its own. -/
def SetAt (w : World) (v : Value) (s : List KV) : Prop := w.ownsRow 0 113 2 v s.length (ents s)

theorem own_of_cells {w : World} {b cap n : Nat} {cur : Array Value} {xs : List Value} (hb : w.heap[b]? = some (.cells cur 113 (0, 0))) (hs : cur.size = cap * 2) (hn : n ≤ cap) (hm : cap ≤ maxLen) (hl : xs.length = n * 2)
    (hc : ∀ j v, xs[j]? = some v → w.cell? ⟨b, j, none⟩ = some v) : w.ownsRow 0 113 2 (.slice (some ⟨b, 0, none⟩) n cap) n xs := by
  refine ⟨hl, .inr ⟨b, cap, cur, rfl, Nat.zero_le _, hb, hn, hm, hs, ?_⟩⟩
  apply List.ext_getElem?
  intro j
  by_cases hj : j < n * 2
  · rw [List.getElem?_take_of_lt hj]
    have hx : xs[j]? = some (xs[j]'(by omega)) := List.getElem?_eq_getElem _
    have := hc j _ hx
    simp only [World.cell?, hb] at this
    rw [hx]
    simpa using this
  · rw [List.getElem?_eq_none (by simp; omega), List.getElem?_eq_none (by omega)]
theorem blk_setCells {b : Nat} {t : TypeId} : ∀ (vs : List Value) (o : Nat) (w : World) (cur : Array Value), w.heap[b]? = some (.cells cur t (0, 0)) → ∃ cur', (w.setCells b o vs).heap[b]? = some (.cells cur' t (0, 0)) ∧ cur'.size = cur.size
  | [], _, _, cur, h => ⟨cur, h, rfl⟩
  | v :: r, o, w, cur, h => by
    obtain ⟨c', h1, h2⟩ := blk_setCells r (o + 1) (w.setCell ⟨b, o, none⟩ v) _ (heap_setCell_same w b o cur t v h)
    exact ⟨c', h1, by rw [h2]; simp⟩
theorem chg_setCells {F : Nat → Prop} {b : Nat} {a : World} (hF : F b) : ∀ (vs : List Value) (o : Nat) (w : World), Chg F a w → Chg F a (w.setCells b o vs)
  | [], _, _, h => h
  | v :: r, o, w, h => chg_setCells hF r (o + 1) _ ⟨h.os, h.tape, h.output, by simpa using h.size, fun k hk hf => (heap_setCell_other w ⟨b, o, none⟩ k v (fun e => hf (e ▸ hF))).trans (h.block k hk hf)⟩
theorem size_setCellsC {b : Nat} : ∀ (vs : List Value) (o : Nat) (w : World), (w.setCells b o vs).heap.size = w.heap.size
  | [], _, _ => rfl
  | v :: r, o, w => (size_setCellsC r (o + 1) _).trans (by simp)
theorem heap_setCellsC {b k : Nat} (hk : k ≠ b) : ∀ (vs : List Value) (o : Nat) (w : World), (w.setCells b o vs).heap[k]? = w.heap[k]?
  | [], _, _ => rfl
  | v :: r, o, w => (heap_setCellsC hk r (o + 1) _).trans (heap_setCell_other w ⟨b, o, none⟩ k v hk)

/-- What a row of entries says. -/
structure Row (w : World) (b cap : Nat) (s : List KV) : Prop where
  len : s.length ≤ cap
  lim : cap ≤ maxLen
  blk : ∃ cur, w.heap[b]? = some (.cells cur 113 (0, 0)) ∧ cur.size = cap * 2
  cells : ∀ j v, (ents s)[j]? = some v → w.cell? ⟨b, j, none⟩ = some v
theorem Row.own {w : World} {b cap : Nat} {s : List KV} (h : Row w b cap s) : SetAt w (.slice (some ⟨b, 0, none⟩) s.length cap) s := by
  obtain ⟨cur, h1, h2⟩ := h.blk
  exact own_of_cells h1 h2 h.len h.lim (ents_len s) h.cells
theorem SetAt.row {w : World} {b n cap : Nat} {s : List KV} (h : SetAt w (.slice (some ⟨b, 0, none⟩) n cap) s) : n = s.length ∧ Row w b cap s := by
  obtain ⟨h1, h2⟩ := h
  rcases h2 with ⟨h2, _⟩ | ⟨g, c, cur, hv, _, hg, hn, hm, hs, ht⟩
  · cases h2
  · injection hv with e1 e2 e3
    injection e1 with e1
    injection e1 with e1
    subst e1; subst e3
    refine ⟨e2, hn, hm, ⟨cur, hg, hs⟩, fun j v hj => ?_⟩
    have hj' : j < s.length * 2 := by
      have := (List.getElem?_eq_some_iff.1 hj).1
      rwa [ents_len] at this
    simp only [World.cell?, hg]
    rw [← ht, List.getElem?_take_of_lt hj'] at hj
    simpa using hj
theorem SetAt.form {w : World} {v : Value} {s : List KV} (h : SetAt w v s) : (v = .slice none 0 0 ∧ s = []) ∨ ∃ b cap, v = .slice (some ⟨b, 0, none⟩) s.length cap ∧ Row w b cap s := by
  have h' := h
  obtain ⟨h1, h2⟩ := h
  rcases h2 with ⟨h2, h3⟩ | ⟨g, c, cur, hv, _, hg, hn, hm, hs, ht⟩
  · exact .inl ⟨h2, List.eq_nil_of_length_eq_zero h3⟩
  · subst hv
    exact .inr ⟨g, c, rfl, h'.row.2⟩
theorem Row.room {w : World} {b cap : Nat} {s : List KV} (h : Row w b cap s) : ∀ j, j < cap * 2 → (w.cell? ⟨b, j, none⟩).isSome = true := by
  obtain ⟨cur, h1, h2⟩ := h.blk
  intro j hj
  simp only [World.cell?, h1]
  simp [h2, hj]
theorem Row.thaw {w : World} {b cap : Nat} {s : List KV} (h : Row w b cap s) (j : Nat) : w.frozen? ⟨b, j, none⟩ = false := by
  obtain ⟨cur, h1, h2⟩ := h.blk
  exact frozen_of_row w b j cur _ h1
theorem Row.shape {w : World} {b cap : Nat} {s : List KV} (h : Row w b cap s) : w.shape? b = some (113, cap * 2) := by
  obtain ⟨cur, h1, h2⟩ := h.blk
  simp [World.shape?, h1, h2]
theorem Row.lt {w : World} {b cap : Nat} {s : List KV} (h : Row w b cap s) : b < w.heap.size := by
  obtain ⟨cur, h1, h2⟩ := h.blk
  rcases Nat.lt_or_ge b w.heap.size with h | h
  · exact h
  · simp [Array.getElem?_eq_none h] at h1
theorem Row.of_block {w w' : World} {b cap : Nat} {s : List KV} (h : Row w b cap s) (hb : w'.heap[b]? = w.heap[b]?) : Row w' b cap s where
  len := h.len
  lim := h.lim
  blk := by obtain ⟨cur, h1, h2⟩ := h.blk; exact ⟨cur, hb.trans h1, h2⟩
  cells := fun j v hj => (World.cell?_of_block (w := w) (a := ⟨b, j, none⟩) hb).trans (h.cells j v hj)
theorem SetAt.of_block {w w' : World} {v : Value} {s : List KV} (h : SetAt w v s) (hb : ∀ k, v.ownBlock = some k → w'.heap[k]? = w.heap[k]?) : SetAt w' v s := by
  obtain ⟨h1, h2⟩ := h
  refine ⟨h1, ?_⟩
  rcases h2 with h2 | ⟨g, c, cur, hv, h3, hg, h4⟩
  · exact .inl h2
  · exact .inr ⟨g, c, cur, hv, h3, (hb g (by rw [hv]; rfl)).trans hg, h4⟩
theorem SetAt.lt {w : World} {v : Value} {s : List KV} (h : SetAt w v s) {k : Nat} (hk : v.ownBlock = some k) : k < w.heap.size := by
  rcases h.form with ⟨rfl, _⟩ | ⟨b, cap, rfl, hr⟩
  · cases hk
  · obtain rfl : b = k := by simpa [Value.ownBlock] using hk
    exact hr.lt

/-- From one value of a set to the next: only its own block turns; it lies there, or in a new one. -/
structure Turn (w w' : World) (v v' : Value) : Prop where
  chg : Chg (fun k => v.ownBlock = some k) w w'
  blk : ∀ k, v'.ownBlock = some k → v.ownBlock = some k ∨ w.heap.size ≤ k
theorem Turn.trans {w w1 w2 : World} {v v1 v2 : Value} (h : Turn w w1 v v1) (h' : Turn w1 w2 v1 v2) : Turn w w2 v v2 where
  chg := h.chg.trans h'.chg fun k hk hv => (h.blk k hv).elim id fun h => by omega
  blk := fun k hk => (h'.blk k hk).elim (h.blk k) fun h2 => .inr (Nat.le_trans h.chg.size h2)

theorem Insert_front {w : World} {v : Value} {s : List KV} (e : KV) {vb : Nat} {ty : TypeId} (h : SetAt w v s) (hl : s.length ≤ 2) (hv : w.heap[vb]? = some (.cells (kvCells e).toArray ty (0, 0))) (hne : v.ownBlock ≠ some vb) :
    Calls Try.prog 134 #[v, .int .i64 0, .slice (some ⟨vb, 0, none⟩) 1 1] w fun r w' => ∃ v', r = .returned v' ∧ SetAt w' v' (e :: s) ∧ Turn w w' v v' := by
  have hvs : ∀ j u, (kvCells e)[j]? = some u → w.cell? ⟨vb, 0 + j, none⟩ = some u := fun j u hj => by
    simp only [World.cell?, hv]
    simpa using hj
  have hvs' : ∀ j u, (kvCells e)[j]? = some u → w.cell? ((⟨vb, 0, none⟩ : Addr).add j) = some u := fun j u hj => by rw [Addr.add_lit]; exact hvs j u hj
  have hvz : ∀ j, w.frozen? ⟨vb, j, none⟩ = false := fun j => frozen_of_row w vb j _ _ hv
  have hvsh : w.shape? vb = some (ty, 2) := by simp [World.shape?, hv, kvCells]
  have h1v : ∀ u ∈ kvCells e, u.oneCell' = true := by intro u hu; simp [kvCells] at hu; rcases hu with rfl | rfl <;> rfl
  have hvlt : vb < w.heap.size := by
    rcases Nat.lt_or_ge vb w.heap.size with h | h
    · exact h
    · simp [Array.getElem?_eq_none h] at hv
  by_cases h0 : s = []
  · subst h0
    obtain ⟨i0, hi, hz0, hz1, hz2⟩ := info_parts info_entry
    have key : ∀ (v' : Value) (w1 : World), w1.ownsRow 0 113 2 v' (0 + 1) ([] ++ kvCells e) → w.grownBy w1 v.ownBlock → (v'.ownBlock = v.ownBlock ∨ v'.ownBlock = some w.heap.size) → SetAt w1 v' [e] ∧ Turn w w1 v v' := by
      intro v' w1 hown hgrow hat
      refine ⟨hown, ⟨⟨hgrow.os, hgrow.tape, hgrow.output, hgrow.size, fun k hk hf => hgrow.block k hk (fun e => hf e.symm)⟩, fun k hk => ?_⟩⟩
      rcases hat with hat | hat
      · exact .inl (hat ▸ hk)
      · rw [hat] at hk
        exact .inr (by injection hk with hk; omega)
    have HS := Lib.hid h
    have HV := Lib.hid (And.intro hvs' h1v)
    have HK := Lib.hid key
    have hfm := h.form
    clear h hl hv hne hvs hvs' hvz hvsh h1v hvlt key
    rcases hfm with ⟨rfl, _⟩ | ⟨b, cap, rfl, hr⟩
    · go_enter Try.func134, Try.ntmps134
      go_wp2_with (at_builtin; refine wpList_append_own_at _ rfl _ _ 116 rfl 0 113 i0 _ 2 16 Try.underlying116 hi hz0 hz1 hz2 rfl (by decide) _ 0 [] rfl HS.out ⟨vb, 0, none⟩ 1 1 (kvCells e) rfl rfl HV.out.1 HV.out.2 (by unfold maxLen; omega) (by omega) (Nat.zero_le _) ?_; intro v' w1 hown hgrow _ hat)
      go_ret
      exact ⟨_, rfl, HK.out _ _ hown hgrow hat⟩
    · have hcm : cap ≤ 9223372036854775807 := by have := hr.lim; unfold maxLen at this; omega
      clear hr
      by_cases hc0 : cap = 0
      · subst hc0
        go_enter Try.func134, Try.ntmps134
        go_wp2_with (at_builtin; refine wpList_append_own_at _ rfl _ _ 116 rfl 0 113 i0 _ 2 16 Try.underlying116 hi hz0 hz1 hz2 rfl (by decide) _ 0 [] rfl HS.out ⟨vb, 0, none⟩ 1 1 (kvCells e) rfl rfl HV.out.1 HV.out.2 (by unfold maxLen; omega) (by omega) (Nat.zero_le _) ?_; intro v' w1 hown hgrow _ hat)
        go_ret
        exact ⟨_, rfl, HK.out _ _ hown hgrow hat⟩
      · have hc1 : 0 < cap := by omega
        go_enter Try.func134, Try.ntmps134
        go_wp2_with (at_builtin; refine wpList_append_own_at _ rfl _ _ 116 rfl 0 113 i0 _ 2 16 Try.underlying116 hi hz0 hz1 hz2 rfl (by decide) _ 0 [] rfl HS.out ⟨vb, 0, none⟩ 1 1 (kvCells e) rfl rfl HV.out.1 HV.out.2 (by unfold maxLen; omega) (by omega) (Nat.zero_le _) ?_; intro v' w1 hown hgrow _ hat)
        go_ret
        exact ⟨_, rfl, HK.out _ _ hown hgrow hat⟩
  · have hpos : 0 < s.length := List.length_pos_iff.2 h0
    obtain ⟨b, cap, rfl, hr⟩ : ∃ b cap, v = .slice (some ⟨b, 0, none⟩) s.length cap ∧ Row w b cap s := by
      rcases h.form with ⟨_, h1⟩ | h1
      · exact absurd h1 h0
      · exact h1
    have hvb : vb ≠ b := fun e => hne (by rw [e]; rfl)
    have hcap : cap ≤ 9223372036854775807 := by have := hr.lim; unfold maxLen at this; omega
    have hcs : ∀ j u, (ents s)[j]? = some u → w.cell? ⟨b, 0 + j, none⟩ = some u := fun j u hj => by rw [Nat.zero_add]; exact hr.cells j u hj
    by_cases hroom : s.length + 1 ≤ cap
    · refine (InsShift b 0 s.length cap 0 vb 0 1 1 (ents s) (kvCells e) w hpos (by omega) hroom hcap hvb (ents_len s) rfl hcs (fun j hj => by rw [Nat.zero_add]; exact hr.room j (by omega)) (fun j hj => by rw [Nat.zero_add]; exact hr.thaw j) hvs (ents_one s) h1v _ _ _ _ hvsh hr.shape (by omega) (hvz _) (hvz _)).mono ?_
      rintro r w' ⟨rfl, rfl⟩
      simp only [Nat.zero_add, Nat.zero_mul, List.drop_zero, Nat.one_mul]
      obtain ⟨cur, hb, hsz⟩ := hr.blk
      obtain ⟨c1, hb1, hs1⟩ := blk_setCells (ents s) 2 w.drew cur hb
      obtain ⟨c2, hb2, hs2⟩ := blk_setCells (kvCells e) 0 _ c1 hb1
      have hrow : Row ((w.drew.setCells b 2 (ents s)).setCells b 0 (kvCells e)) b cap (e :: s) := ⟨by simpa using hroom, hr.lim, ⟨c2, hb2, by omega⟩, fun j u hj => by
        rw [ents_cons] at hj
        by_cases hj2 : j < 2
        · rw [List.getElem?_append_left (by simpa [kvCells] using hj2)] at hj
          have hin := World.cell?_setCells_in b (kvCells e) 0 (w.drew.setCells b 2 (ents s)) (fun q hq => by
            rw [Nat.zero_add]
            have hq' : q < 2 := by simpa [kvCells] using hq
            exact isSome_setCells b (ents s) 2 w.drew (fun t ht => hr.room _ (by rw [ents_len] at ht; omega)) q (hr.room q (by omega))) j (by simpa [kvCells] using hj2)
          rw [Nat.zero_add] at hin
          rw [hin, ← hj, List.getElem?_eq_getElem]
        · rw [List.getElem?_append_right (by simp [kvCells]; omega)] at hj
          have hjl := (List.getElem?_eq_some_iff.1 hj).1
          rw [World.cell?_setCells_out b _ _ _ _ (fun _ _ => .inr (by simp [kvCells]; omega))]
          have hin := World.cell?_setCells_in b (ents s) 2 w.drew (fun q hq => hr.room _ (by rw [ents_len] at hq; omega)) (j - 2) (by simpa [kvCells] using hjl)
          rw [show 2 + (j - 2) = j by omega] at hin
          rw [hin, ← hj]
          simp only [kvCells, List.length_cons, List.length_nil]
          rw [List.getElem?_eq_getElem]⟩
      refine ⟨_, rfl, hrow.own, ⟨chg_setCells (by rfl) _ _ _ (chg_setCells (by rfl) _ _ _ (Chg.refl _ _).drew), fun k hk => .inl hk⟩⟩
    · refine (InsGrow b 0 s.length cap 0 vb 0 1 1 (ents s) (kvCells e) w hpos (by omega) hr.len (by omega) (by omega) (ents_len s) rfl hcs hvs (ents_one s) h1v).mono ?_
      rintro r w' ⟨G, ROW, rfl, hG1, hG2, hR, _, rfl⟩
      simp only [Nat.zero_add, Nat.zero_mul, List.drop_zero, Nat.one_mul]
      have hb : ((w.alloc (.cells ROW 113)).drew).heap[w.heap.size]? = some (.cells ROW 113 (0, 0)) := heap_alloc_new w _
      obtain ⟨c1, hb1, hs1⟩ := blk_setCells (kvCells e) 0 _ ROW hb
      obtain ⟨c2, hb2, hs2⟩ := blk_setCells (ents s) 2 (((w.alloc (.cells ROW 113)).drew.setCells w.heap.size 0 (kvCells e)).drew) c1 hb1
      have hroom0 : ∀ j, j < G * 2 → (((w.alloc (.cells ROW 113)).drew).cell? ⟨w.heap.size, j, none⟩).isSome = true := fun j hj => by
        simp only [World.cell?, hb]
        simp [hR, hj]
      have hroom1 : ∀ j, j < G * 2 → ((((w.alloc (.cells ROW 113)).drew.setCells w.heap.size 0 (kvCells e)).drew).cell? ⟨w.heap.size, j, none⟩).isSome = true := fun j hj =>
        isSome_setCells w.heap.size (kvCells e) 0 ((w.alloc (.cells ROW 113)).drew) (fun t ht => hroom0 _ (by simp [kvCells] at ht; omega)) j (hroom0 j hj)
      have hrow : Row ((((w.alloc (.cells ROW 113)).drew.setCells w.heap.size 0 (kvCells e)).drew).setCells w.heap.size 2 (ents s)) w.heap.size G (e :: s) := ⟨by simpa using hG1, hG2, ⟨c2, hb2, by omega⟩, fun j u hj => by
        rw [ents_cons] at hj
        by_cases hj2 : j < 2
        · rw [List.getElem?_append_left (by simpa [kvCells] using hj2)] at hj
          rw [World.cell?_setCells_out w.heap.size _ _ _ _ (fun _ _ => .inl hj2)]
          have hin := World.cell?_setCells_in w.heap.size (kvCells e) 0 ((w.alloc (.cells ROW 113)).drew) (fun q hq => by
            rw [Nat.zero_add]
            exact hroom0 q (by simp [kvCells] at hq; omega)) j (by simpa [kvCells] using hj2)
          rw [Nat.zero_add] at hin
          show ((w.alloc (.cells ROW 113)).drew.setCells w.heap.size 0 (kvCells e)).cell? _ = _
          rw [hin, ← hj, List.getElem?_eq_getElem]
        · rw [List.getElem?_append_right (by simp [kvCells]; omega)] at hj
          have hjl := (List.getElem?_eq_some_iff.1 hj).1
          have hin := World.cell?_setCells_in w.heap.size (ents s) 2 _ (fun q hq => hroom1 _ (by rw [ents_len] at hq; omega)) (j - 2) (by simpa [kvCells] using hjl)
          rw [show 2 + (j - 2) = j by omega] at hin
          rw [hin, ← hj]
          simp only [kvCells, List.length_cons, List.length_nil]
          rw [List.getElem?_eq_getElem]⟩
      refine ⟨_, rfl, hrow.own, ⟨⟨?_, ?_, ?_, ?_, fun k hk hf => ?_⟩, fun k hk => .inr ?_⟩⟩
      · exact (chg_setCells (F := fun k => k = w.heap.size) rfl _ _ _ (chg_setCells (F := fun k => k = w.heap.size) rfl _ _ _ (Chg.of_below ((Below.refl _ _).alloc (Nat.le_refl _) _)).drew).drew).os
      · exact (chg_setCells (F := fun k => k = w.heap.size) rfl _ _ _ (chg_setCells (F := fun k => k = w.heap.size) rfl _ _ _ (Chg.of_below ((Below.refl _ _).alloc (Nat.le_refl _) _)).drew).drew).tape
      · exact (chg_setCells (F := fun k => k = w.heap.size) rfl _ _ _ (chg_setCells (F := fun k => k = w.heap.size) rfl _ _ _ (Chg.of_below ((Below.refl _ _).alloc (Nat.le_refl _) _)).drew).drew).output
      · exact (chg_setCells (F := fun k => k = w.heap.size) rfl _ _ _ (chg_setCells (F := fun k => k = w.heap.size) rfl _ _ _ (Chg.of_below ((Below.refl _ _).alloc (Nat.le_refl _) _)).drew).drew).size
      · exact (chg_setCells (F := fun k => k = w.heap.size) rfl _ _ _ (chg_setCells (F := fun k => k = w.heap.size) rfl _ _ _ (Chg.of_below ((Below.refl _ _).alloc (Nat.le_refl _) _)).drew).drew).block k hk (by omega)
      · simp [Value.ownBlock] at hk; omega
end Go.Proofs.Ytonfmgdikgedfaa.Cm
