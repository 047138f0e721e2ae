/- Caches: the walk of NumsApart on two rows. -/
import Derived.Test.YtonfmgdikgedfaaCh
set_option maxRecDepth 100000
set_option maxHeartbeats 2000000
set_option linter.unusedVariables false
set_option linter.unusedSimpArgs false
namespace Go.Proofs.Ytonfmgdikgedfaa.Cm
open Go.RowKit Bs Go.Lib

/-- Two rows, listed in block gl. -/
structure Lists (w : World) (gl : Nat) (V : Nat → Value) (n : Nat → Nat) : Prop where
  cell : ∀ q, q < 2 → w.cell? ⟨gl, q, none⟩ = some (V q)
  apart : ∀ p q k, p < 2 → q < 2 → p ≠ q → (V p).ownBlock = some k → (V q).ownBlock ≠ some k
  ne : ∀ q k, q < 2 → (V q).ownBlock = some k → k ≠ gl
  small : ∀ q, n q ≤ 64
def Tb (V : Nat → Value) (k : Nat) : Prop := ∃ q, q < 2 ∧ (V q).ownBlock = some k
def neg (q : Nat) : Int := -1 - (q : Int)
/-- In the first loop: what lies behind the first i rows and j elements. -/
structure Fill (w wr : World) (V : Nat → Value) (n : Nat → Nat) (i j : Nat) : Prop where
  chg : Chg (Tb V) w wr
  rows : ∃ R : Nat → List Int, (∀ q, q < 2 → Num wr (V q) (R q) ∧ (R q).length = n q ∧ (q < i → R q = List.replicate (n q) (neg q))) ∧ ∀ k, k < j → (R i)[k]? = some (neg i)
theorem Fill.next {w wr : World} {V : Nat → Value} {n : Nat → Nat} {i j : Nat} (h : Fill w wr V n i j) (hj : n i ≤ j) : Fill w wr V n (i + 1) 0 := by
  obtain ⟨R, h1, h2⟩ := h.rows
  refine ⟨h.chg, R, fun q hq => ⟨(h1 q hq).1, (h1 q hq).2.1, fun hqi => ?_⟩, fun k hk => absurd hk (Nat.not_lt_zero _)⟩
  rcases Nat.lt_or_ge q i with h3 | h3
  · exact (h1 q hq).2.2 h3
  · obtain rfl : q = i := by omega
    apply List.ext_getElem?
    intro k
    rcases Nat.lt_or_ge k (n q) with h4 | h4
    · rw [h2 k (by omega), List.getElem?_replicate, if_pos h4]
    · rw [List.getElem?_eq_none (by rw [(h1 q hq).2.1]; exact h4), List.getElem?_eq_none (by simpa using h4)]
theorem Fill.set {w wr : World} {gl : Nat} {V : Nat → Value} {n : Nat → Nat} {i j : Nat} (hL : Lists w gl V n) (h : Fill w wr V n i j) (hi : i < 2) {g : Nat} (hg : (V i).ownBlock = some g) (hj : j < n i) :
    Fill w (wr.setCell ⟨g, j, none⟩ (.int .i64 (neg i))) V n i (j + 1) := by
  obtain ⟨R, h1, h2⟩ := h.rows
  refine ⟨h.chg.setCell (a := ⟨g, j, none⟩) (.inr ⟨i, hi, hg⟩) _, fun q => if q = i then (R q).set j (neg i) else R q, fun q hq => ?_, fun k hk => ?_⟩
  · by_cases hqi : q = i
    · subst hqi
      simp only [if_pos]
      obtain ⟨a, c, e⟩ := (h1 q hq).1.slice
      refine ⟨?_, by rw [List.length_set]; exact (h1 q hq).2.1, fun h => absurd h (Nat.lt_irrefl _)⟩
      have h3 := (h1 q hq).1
      rw [e] at h3 hg ⊢
      obtain ⟨_, e2, _⟩ := h3.own_eq hg
      exact h3.set e2 _
    · simp only [if_neg hqi]
      refine ⟨(h1 q hq).1.same fun k hk => heap_setCell_other _ _ _ _ fun e => hL.apart q i k hq hi hqi hk (e ▸ hg), (h1 q hq).2⟩
  · simp only [if_pos]
    by_cases hkj : k = j
    · subst hkj
      rw [List.getElem?_set_self (by rw [(h1 i hi).2.1]; exact hj)]
    · rw [List.getElem?_set_ne (fun e => hkj e.symm)]
      exact h2 k (by omega)

/-- In the second loop: rows that have grown; gg: the block of the list of them. -/
structure Grew (w wr : World) (gg : Nat) (V : Nat → Value) (n : Nat → Nat) (G : Nat → Value) (i : Nat) : Prop where
  chg : Chg (fun k => Tb V k ∨ k = gg) w wr
  rows : ∀ q, q < 2 → Num wr (V q) (List.replicate (n q) (neg q))
  cell : ∀ q, q < 2 → wr.cell? ⟨gg, q, none⟩ = some (G q)
  thaw : ∀ q, wr.frozen? ⟨gg, q, none⟩ = false
  grown : ∀ q, q < i → Num wr (G q) (List.replicate (n q + 40) (neg q))
  off : ∀ q k, q < i → (G q).ownBlock = some k → k ≠ gg ∧ ∀ p, p < 2 → p ≠ q → (V p).ownBlock ≠ some k
/-- A row that grows. -/
structure Grows (w wr : World) (gg : Nat) (V : Nat → Value) (n : Nat → Nat) (G : Nat → Value) (i : Nat) (g : Value) (k : Nat) : Prop extends Grew w wr gg V n G i where
  row : Num wr g (List.replicate (n i + k) (neg i))
  own : ∀ b, g.ownBlock = some b → (w.heap.size ≤ b ∨ Tb V b) ∧ b ≠ gg ∧ (∀ p, p < 2 → p ≠ i → (V p).ownBlock ≠ some b) ∧ ∀ p, p < i → (G p).ownBlock ≠ some b
theorem Grew.start {w wr : World} {gl gg : Nat} {V : Nat → Value} {n : Nat → Nat} {G : Nat → Value} {i : Nat} (hL : Lists w gl V n) (hlt : ∀ b, Tb V b → b < w.heap.size ∧ b ≠ gg) (h : Grew w wr gg V n G i) (hi : i < 2) : Grows w wr gg V n G i (V i) 0 :=
  { h with
    row := h.rows i hi
    own := fun b hb => ⟨.inr ⟨i, hi, hb⟩, (hlt b ⟨i, hi, hb⟩).2, fun p hp hpi e => hL.apart p i b hp hi hpi e hb, fun p hp e => (h.off p b hp e).2 i hi (by omega) hb⟩ }
theorem Grows.next {w wr : World} {gg : Nat} {V : Nat → Value} {n : Nat → Nat} {G : Nat → Value} {i k : Nat} {g : Value} (hn : ∀ q, n q ≤ 64) (hgg : gg < w.heap.size) (h : Grows w wr gg V n G i g k) (hi : i < 2) (hk : k < 40) (ty : TypeId) :
    ∃ g' w', (Builtin.append_ #[31, 31] ty #[g, .slice (some ⟨wr.heap.size, 0, none⟩) 1 1]).run Try.prog (wr.alloc (.cells #[.int .i64 (neg i)] 3)) = .ok g' w' ∧ Grows w w' gg V n G i g' (k + 1) := by
  have hb : Below wr.heap.size wr (wr.alloc (.cells #[.int .i64 (neg i)] 3)) := (Below.refl _ _).alloc (Nat.le_refl _) _
  have hsz := h.chg.size
  have hni := hn i
  obtain ⟨g', w', r, h1, h2, h3, h4⟩ := run_app1k (h.row.below hb) (cell_blk (heap_alloc_new wr (.cells #[.int .i64 (neg i)] 3)) rfl) (by simp; omega) ty
  have hc : Chg (fun k => Tb V k ∨ k = gg) w (wr.alloc (.cells #[.int .i64 (neg i)] 3)) := h.chg.alloc _
  have hgc : Chg (fun b => g.ownBlock = some b) (wr.alloc (.cells #[.int .i64 (neg i)] 3)) w' := (Chg.refl _ _).grown h2 fun b hb => .inr hb
  have hnew : ∀ b, g'.ownBlock = some b → g.ownBlock = some b ∨ b = wr.heap.size + 1 := fun b hb => by
    rcases h3 with h3 | h3
    · exact .inl (h3 ▸ hb)
    · rw [h3, World.size_alloc] at hb
      exact .inr (Option.some.inj hb).symm
  have hG : ∀ b, g.ownBlock = some b → b < wr.heap.size := fun b hb => h.row.lt hb
  refine ⟨g', w', r, ⟨hc.grown h2 fun b hb => (h.own b hb).1.imp id fun h => .inl h, fun q hq => ?_, fun q hq => ?_, fun q => ?_, fun q hq => ?_, h.off⟩, ?_, fun b hb => ?_⟩
  · refine h4 _ _ ((h.rows q hq).below hb) fun b e1 e2 => ?_
    by_cases hqi : q = i
    · subst hqi
      exact ⟨List.replicate k (neg q), List.replicate_append_replicate⟩
    · exact absurd e1 ((h.own b e2).2.2.1 q hq hqi)
  · exact hgc.cell_eq (below_cell' hb (h.cell q hq)) fun e => (h.own gg e).2.1 rfl
  · exact (hgc.frozen (a := ⟨gg, q, none⟩) (by simp; omega) fun e => (h.own gg e).2.1 rfl).trans ((World.frozen?_of_block (w := wr) (a := ⟨gg, q, none⟩) (hb.block gg (by omega))).trans (h.thaw q))
  · exact h4 _ _ ((h.grown q hq).below hb) fun b e1 e2 => absurd e1 ((h.own b e2).2.2.2 q hq)
  · rw [← Nat.add_assoc, List.replicate_succ']
    exact h1
  · rcases hnew b hb with h5 | h5
    · exact h.own b h5
    · subst h5
      refine ⟨.inl (by omega), by omega, fun p hp hpi e => ?_, fun p hp e => ?_⟩
      · have := (h.rows p hp).lt e; omega
      · have := (h.grown p hp).lt e; omega
theorem Grows.store {w wr : World} {gg : Nat} {V : Nat → Value} {n : Nat → Nat} {G : Nat → Value} {i : Nat} {g : Value} (hlt : ∀ b, Tb V b → b < w.heap.size ∧ b ≠ gg) (h : Grows w wr gg V n G i g 40) (hi : i < 2) :
    Grew w (wr.setCell ⟨gg, i, none⟩ g) gg V n (fun q => if q = i then g else G q) (i + 1) := by
  have hne : ∀ {q}, q < 2 → ∀ k, (V q).ownBlock = some k → k ≠ gg := fun hq k hk => (hlt k ⟨_, hq, hk⟩).2
  refine ⟨h.chg.setCell (a := ⟨gg, i, none⟩) (.inr (.inr rfl)) _, fun q hq => (h.rows q hq).same fun k hk => heap_setCell_other _ _ _ _ (hne hq k hk), fun q hq => ?_, fun q => ?_, fun q hq => ?_, fun q k hq hk => ?_⟩
  · by_cases hqi : q = i
    · subst hqi
      simp only [if_pos]
      exact setCell_same (h.cell q hq)
    · simp only [if_neg hqi]
      exact (setCell_off (.inr fun e => hqi e.symm)).trans (h.cell q hq)
  · rw [World.frozen?_setCell]; exact h.thaw q
  · by_cases hqi : q = i
    · subst hqi
      simp only [if_pos]
      exact h.row.same fun k hk => heap_setCell_other _ _ _ _ (h.own k hk).2.1
    · simp only [if_neg hqi]
      exact (h.grown q (by omega)).same fun k hk => heap_setCell_other _ _ _ _ (h.off q k (by omega) hk).1
  · by_cases hqi : q = i
    · subst hqi
      simp only [if_pos] at hk
      exact ⟨(h.own k hk).2.1, (h.own k hk).2.2.1⟩
    · simp only [if_neg hqi] at hk
      exact h.off q k (by omega) hk

theorem info_ints24 : (Try.prog.info? 31).map (fun i => (i.zero, i.size, i.bytes)) = some (some (.slice none 0 0), 1, 24) := by kernel_rfl
theorem Lists.go {w w' : World} {gl : Nat} {V : Nat → Value} {n : Nat → Nat} (h : Lists w gl V n) (hb : Below w.heap.size w w') : Lists w' gl V n := ⟨fun q hq => below_cell' hb (h.cell q hq), h.apart, h.ne, h.small⟩
theorem Lists.at {w wr : World} {gl : Nat} {V : Nat → Value} {n : Nat → Nat} (h : Lists w gl V n) (hc : Chg (Tb V) w wr) {q : Nat} (hq : q < 2) : wr.cell? ⟨gl, q, none⟩ = some (V q) :=
  hc.cell_eq (h.cell q hq) fun ⟨p, hp, e⟩ => h.ne p gl hp e rfl
theorem Lists.at2 {w wr : World} {gl gg : Nat} {V : Nat → Value} {n : Nat → Nat} (h : Lists w gl V n) (hg : gl ≠ gg) (hc : Chg (fun k => Tb V k ∨ k = gg) w wr) {q : Nat} (hq : q < 2) : wr.cell? ⟨gl, q, none⟩ = some (V q) :=
  hc.cell_eq (h.cell q hq) fun e => e.elim (fun ⟨p, hp, e⟩ => h.ne p gl hp e rfl) hg
theorem Fill.grew {w wr : World} {gg : Nat} {V : Nat → Value} {n : Nat → Nat} (h : Fill w wr V n 2 0) (hlt : ∀ b, Tb V b → b < w.heap.size ∧ b ≠ gg) (hc : ∀ q, q < 2 → w.cell? ⟨gg, q, none⟩ = some (.slice none 0 0)) (hz : ∀ q, w.frozen? ⟨gg, q, none⟩ = false) (hg : gg < w.heap.size) : Grew w wr gg V n (fun _ => .slice none 0 0) 0 := by
  obtain ⟨R, h1, _⟩ := h.rows
  have hn : ¬ Tb V gg := fun e => (hlt gg e).2 rfl
  exact ⟨h.chg.mono fun k _ hk => .inl hk, fun q hq => by rw [← (h1 q hq).2.2 hq]; exact (h1 q hq).1, fun q hq => h.chg.cell_eq (hc q hq) hn, fun q => (h.chg.frozen (a := ⟨gg, q, none⟩) hg hn).trans (hz q), fun q hq => absurd hq (Nat.not_lt_zero _), fun q k hq => absurd hq (Nat.not_lt_zero _)⟩

theorem RApart {w : World} {gl : Nat} {V : Nat → Value} {n : Nat → Nat} {R0 : Nat → List Int} (hL : Lists w gl V n) (hR : ∀ q, q < 2 → Num w (V q) (R0 q) ∧ (R0 q).length = n q) :
    Calls Try.prog 43 #[.slice (some ⟨gl, 0, none⟩) 2 2] w fun e w' => e = .returned (.bool true) ∧ Chg (Tb V) w w' := by
  obtain ⟨i0, hi, hz0, hz1, hz2⟩ := info_parts info_ints24
  have HSL : Hid (∀ q, q < 2 → ∃ a c, V q = .slice a (n q) c) := Lib.hid fun q hq => by
    obtain ⟨h1, h2⟩ := hR q hq
    obtain ⟨a, c, e⟩ := h1.slice
    exact ⟨a, c, by rw [e, h2]⟩
  have HTL : Hid (∀ b, Tb V b → b < w.heap.size) := Lib.hid fun b ⟨q, hq, e⟩ => (hR q hq).1.lt e
  have HL := Lib.hid hL
  have HR := Lib.hid hR
  have hgl := World.block_lt_of_cell? w _ (hL.cell 0 (by omega))
  clear hL hR
  go_enter Try.func43, Try.ntmps43
  go_wp2_with (at_make; refine wpList_make_full _ rfl _ _ 89 rfl w.heap.size 31 i0 _ 1 Try.underlying89 hi hz0 hz1 .i64 .i64 _ _ 2 rfl rfl rfl rfl (by rw [hz2]; omega) (by unfold maxLen; omega) (Nat.le_refl _) ?_; intro w1 hown hgrow)
  have hb1 : Below w.heap.size w w1 := (Below.refl _ _).grown hgrow (Nat.le_refl _) (fun k hk => by cases hk)
  have hgrp : (∀ q, q < 2 → w1.cell? ⟨w.heap.size, q, none⟩ = some (.slice none 0 0)) ∧ (∀ q, w1.frozen? ⟨w.heap.size, q, none⟩ = false) ∧ w.heap.size < w1.heap.size := by
    rcases hown.2 with ⟨hv, _⟩ | ⟨g, cap, cur, hv, _, hh, _, _, hcur, htake⟩
    · cases hv
    · injection hv with e1 _ e2
      injection e1 with e1
      injection e1 with e1
      subst e1; subst e2
      have hlt : w.heap.size < w1.heap.size := by
        rcases Nat.lt_or_ge w.heap.size w1.heap.size with h | h
        · exact h
        · simp [Array.getElem?_eq_none h] at hh
      refine ⟨fun q hq => cell_blk hh ?_, fun q => frozen_of_row _ _ q _ _ hh, hlt⟩
      have h1 : (cur.toList.take (2 * 1))[q]? = some (.slice none 0 0) := by
        rw [htake]
        simp [madeCells, Value.cells, hq, Nat.mod_one]
      rw [List.getElem?_take_of_lt (by omega)] at h1
      simpa using h1
  obtain ⟨hgc, hgz, hgw⟩ := hgrp
  have HL1 := Lib.hid (HL.out.go hb1)
  have HLT : Hid (∀ b, Tb V b → b < w1.heap.size ∧ b ≠ w.heap.size) := Lib.hid fun b hb => by have := HTL.out b hb; omega
  have HF0 : Hid (Fill w1 w1 V n 0 0) := Lib.hid ⟨Chg.refl _ _, R0, fun q hq => ⟨(HR.out q hq).1.below hb1, (HR.out q hq).2, fun h => absurd h (Nat.not_lt_zero _)⟩, fun k hk => absurd hk (Nat.not_lt_zero _)⟩
  have HC1 := Lib.hid (And.intro hgc (And.intro hgz (And.intro hb1 hgw)))
  have hglne : gl ≠ w.heap.size := by omega
  have HNE := Lib.hid hglne
  clear hown hgrow hb1 hgc hgz HL HR HTL hi hz0 hz1 hz2
  obtain ⟨gg, hgg⟩ : ∃ gg, w.heap.size = gg := ⟨_, rfl⟩
  have HGG := Lib.hid hgg
  rw [hgg] at hgl hgw HLT HC1 hglne HNE
  rw [hgg]
  clear hgg
  go_loopg [4] 2 (fun gk ui wr => ∃ i : Nat, Hid (i + gk = 2) ∧ ui = .int .i64 i ∧ Hid (Fill w1 wr V n i 0))
  case atStart => exact ⟨0, Lib.hid (Nat.zero_add _), by go_num, HF0⟩
  case round =>
    clear HF0
    obtain ⟨i, hi, rfl, HF⟩ := hrel
    by_cases hi2 : i < 2
    · have hi2' : (i : Int) < 2 := by omega
      have hi0 : (0 : Int) ≤ (i : Int) := by omega
      obtain ⟨a, c, hV⟩ := HSL.out i hi2
      have HV := Lib.hid hV
      go_wp2_with fail
      go_loopg [5] (n i) (fun gk uj wr => ∃ j : Nat, Hid (j + gk = n i) ∧ uj = .int .i64 j ∧ Hid (Fill w1 wr V n i j))
      case atStart => exact ⟨0, Lib.hid (Nat.zero_add _), by go_num, HF⟩
      case round =>
        clear HF
        obtain ⟨j, hj, rfl, HF⟩ := hrel
        have k0 := HL1.out.at HF.out.chg hi2
        rw [HV.out] at k0
        have hn64 := HL1.out.small i
        by_cases hjn : j < n i
        · have hjn' : (j : Int) < (n i : Int) := by omega
          have hj0 : (0 : Int) ≤ (j : Int) := by omega
          obtain ⟨R, h1, _⟩ := HF.out.rows
          have h2 := (h1 i hi2).1
          have h3 := (h1 i hi2).2.1
          rw [HV.out] at h2
          obtain ⟨g, e, m0⟩ := h2.elem (j := j) (by omega)
          have z0 := h2.thaw e j
          subst e
          have HN := Lib.hid (HF.out.set HL1.out hi2 (g := g) (by rw [HV.out]; rfl) hjn)
          unfold neg at HN
          generalize (R i)[j] = y at m0
          clear h1 h2 h3 HF hV
          go_wp2
          go_roundg (n i - (j + 1))
          case measure => have := hj.out; omega
          case rel => exact ⟨j + 1, Lib.hid (by have := hj.out; omega), by go_num, HN⟩
        · have HN := Lib.hid (HF.out.next (by omega))
          clear HF hV
          go_wp2
          go_roundg (2 - (i + 1))
          case measure => have := hi.out; omega
          case rel => exact ⟨i + 1, Lib.hid (by have := hi.out; omega), by go_num, HN⟩
    · obtain rfl : i = 2 := by have := hi.out; omega
      have HG := Lib.hid (HF.out.grew HLT.out HC1.out.1 HC1.out.2.1 HC1.out.2.2.2)
      clear HF hi hi2
      go_wp2_with fail
      go_loopg [6] 2 (fun gk ui wr => ∃ i : Nat, Hid (i + gk = 2) ∧ ui = .int .i64 i ∧ ∃ G, Hid (Grew w1 wr gg V n G i))
      case atStart => exact ⟨0, Lib.hid (Nat.zero_add _), by go_num, _, HG⟩
      case round =>
        clear HG
        obtain ⟨i, hi, rfl, G, HG⟩ := hrel
        by_cases hi2 : i < 2
        · have hi2' : (i : Int) < 2 := by omega
          have hi0 : (0 : Int) ≤ (i : Int) := by omega
          obtain ⟨a, c, hV⟩ := HSL.out i hi2
          have k0 := HL1.out.at2 HNE.out HG.out.chg hi2
          have HS := Lib.hid (HG.out.start HL1.out HLT.out hi2)
          rw [hV] at HS k0
          clear HG
          go_wp2_with fail
          go_loopg [7, 8] 40 (fun gk ug uk wr => ∃ k : Nat, Hid (k + gk = 40) ∧ uk = .int .i64 k ∧ Hid (Grows w1 wr gg V n G i ug k))
          case atStart => exact ⟨0, Lib.hid (Nat.zero_add _), by go_num, HS⟩
          case round =>
            clear HS k0
            obtain ⟨k, hk, rfl, HS⟩ := hrel
            by_cases hk4 : k < 40
            · have hk4' : (k : Int) < 40 := by omega
              obtain ⟨g', w2, r, hn⟩ := HS.out.next HL1.out.small HC1.out.2.2.2 hi2 hk4 31
              unfold neg at r
              have HN := Lib.hid hn
              obtain ⟨sa, sc, hsl⟩ := HS.out.row.slice
              clear hn HS hV
              go_wp2_with (at_builtin; refine Lib.wpList_append_run _ rfl _ _ _ _ rfl _ _ rfl rfl _ _ r ?_)
              go_roundg (40 - (k + 1))
              case measure => have := hk.out; omega
              case rel => exact ⟨k + 1, Lib.hid (by have := hk.out; omega), by go_num, HN⟩
            · obtain rfl : k = 40 := by have := hk.out; omega
              have HN := Lib.hid (HS.out.store HLT.out hi2)
              have k1 := HS.out.cell i hi2
              have z1 := HS.out.thaw i
              obtain ⟨sa, sc, rfl⟩ := HS.out.row.slice
              generalize (List.replicate (n i + 40) (neg i)).length = ln at *
              clear HS hV hk hk4
              go_wp2
              go_roundg (2 - (i + 1))
              case measure => have := hi.out; omega
              case rel => exact ⟨i + 1, Lib.hid (by have := hi.out; omega), by go_num, _, HN⟩
        · obtain rfl : i = 2 := by have := hi.out; omega
          clear hi hi2
          go_wp2_with fail
          go_loopg [9] 2 (fun gk ui wr => ∃ i : Nat, Hid (i + gk = 2) ∧ ui = .int .i64 i ∧ Hid (Grew w1 wr gg V n G 2))
          case atStart => exact ⟨0, Lib.hid (Nat.zero_add _), by go_num, HG⟩
          case round =>
            clear HG
            obtain ⟨i, hi, rfl, HG⟩ := hrel
            by_cases hi2 : i < 2
            · have hi2' : (i : Int) < 2 := by omega
              have hi0 : (0 : Int) ≤ (i : Int) := by omega
              obtain ⟨a, c, hV⟩ := HSL.out i hi2
              obtain ⟨a2, c2, hG⟩ := (HG.out.grown i hi2).slice
              rw [List.length_replicate] at hG
              have HV := Lib.hid hV
              have HW := Lib.hid hG
              clear hV hG
              have hn64 := HL1.out.small i
              go_wp2_with fail
              go_loopg [10] (n i + 40) (fun gk uj wr => ∃ j : Nat, Hid (j + gk = n i + 40) ∧ uj = .int .i64 j ∧ Hid (Grew w1 wr gg V n G 2))
              case atStart => exact ⟨0, Lib.hid (Nat.zero_add _), by go_num, HG⟩
              case round =>
                clear HG
                obtain ⟨j, hj, rfl, HG⟩ := hrel
                have k0 := HL1.out.at2 HNE.out HG.out.chg hi2
                have k1 := HG.out.cell i hi2
                rw [HV.out] at k0
                rw [HW.out] at k1
                by_cases hjg : j < n i + 40
                · have hjg' : (j : Int) < (n i : Int) + 40 := by omega
                  have hj0 : (0 : Int) ≤ (j : Int) := by omega
                  have h2 := HG.out.grown i hi2
                  rw [HW.out, show Num wr (.slice a2 (n i + 40) c2) (List.replicate (n i + 40) (neg i)) = Num wr (.slice a2 (List.replicate (n i + 40) (neg i)).length c2) (List.replicate (n i + 40) (neg i)) by rw [List.length_replicate]] at h2
                  obtain ⟨g, rfl, m0⟩ := h2.elem (j := j) (by simpa using hjg)
                  rw [List.getElem_replicate] at m0
                  unfold neg at m0
                  clear h2
                  by_cases hjn : j < n i
                  · have hjn' : (j : Int) < (n i : Int) := by omega
                    have h3 := HG.out.rows i hi2
                    rw [HV.out] at h3
                    obtain ⟨g3, rfl, m1⟩ := h3.elem (j := j) (by simpa using hjn)
                    rw [List.getElem_replicate] at m1
                    unfold neg at m1
                    clear h3
                    go_wp2
                    go_roundg (n i + 40 - (j + 1))
                    case measure => have := hj.out; omega
                    case rel => exact ⟨j + 1, Lib.hid (by have := hj.out; omega), by go_num, HG⟩
                  · have hjn' : ¬ ((j : Int) < (n i : Int)) := by omega
                    go_wp2
                    go_roundg (n i + 40 - (j + 1))
                    case measure => have := hj.out; omega
                    case rel => exact ⟨j + 1, Lib.hid (by have := hj.out; omega), by go_num, HG⟩
                · clear hj
                  go_wp2
                  go_roundg (2 - (i + 1))
                  case measure => have := hi.out; omega
                  case rel => exact ⟨i + 1, Lib.hid (by have := hi.out; omega), by go_num, HG⟩
            · clear hi
              go_wp2
              go_ret
              refine ⟨rfl, (Chg.of_below (by rw [HGG.out]; exact HC1.out.2.2.1)).trans HG.out.chg fun k hk hs => hs.elim id fun e => ?_⟩
              have := HGG.out
              omega
end Go.Proofs.Ytonfmgdikgedfaa.Cm
