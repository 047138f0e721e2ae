/- Slices copied: methods, instructions. -/
import Derived.Test.YtipinmbpdgjalaaGreatDoorMH
import Derived.Deep.Slices
import Derived.Lib.SliceRun
import Derived.Test.YtipinmbpdgjalaaGreatDoorMI
import Derived.Deep.RegionWith
set_option maxRecDepth 100000
set_option maxHeartbeats 2000000
set_option linter.unusedVariables false
set_option linter.unusedSimpArgs false
namespace Go.Proofs.YtipinmbpdgjalaaGreatDoor.Hi
open Go.RowKit Bs

theorem flat_len {α : Type} {k : Nat} : ∀ (css : List (List α)), (∀ cs ∈ css, cs.length = k) → css.flatten.length = css.length * k
  | [], _ => by simp
  | cs :: r, h => by
    have := flat_len r (fun c hc => h c (by simp [hc]))
    simp only [List.flatten_cons, List.length_append, List.length_cons, this, h cs (by simp), Nat.add_mul]
    omega

/-- The cells of a slice, element by element. -/
theorem Sl.rows {α : Type} {S : Nat → Prop} {k bytes : Nat} {R : World → List Value → α → Prop} {w : World} {a : Option Addr} {n c : Nat} {xs : List α} (h : Sl S k bytes R w (.slice a n c) xs) (hk0 : 0 < k) :
    n = xs.length ∧ n ≤ c ∧ n * bytes ≤ 140737488355328 ∧ ∃ css : List (List Value), ∃ hl : css.length = xs.length, (∀ cs ∈ css, cs.length = k) ∧ (∀ i (h : i < xs.length), R w (css[i]'(hl ▸ h)) xs[i]) ∧
      (xs = [] ∨ ∃ b o, a = some ⟨b, o, none⟩ ∧ S b ∧ ∀ j u, css.flatten[j]? = some u → w.cell? ⟨b, o + j, none⟩ = some u) := by
  obtain ⟨a', c', hf, h2, h3, h4⟩ := h
  injection hf with f1 f2 f3
  subst f1; subst f2; subst f3
  refine ⟨rfl, h2, h3, ?_⟩
  rcases h4 with rfl | ⟨b, o, rfl, hS, hc⟩
  · exact ⟨[], rfl, by simp, by simp, .inl rfl⟩
  · obtain ⟨f, hf⟩ := Go.Deep.choose_lt (α := List Value) (n := xs.length) (p := fun i cs => cs.length = k ∧ (∀ j (hj : j < cs.length), w.cell? ⟨b, o + i * k + j, none⟩ = some cs[j]) ∧ ∀ (hi : i < xs.length), R w cs xs[i]) (fun i hi => by
      obtain ⟨cs, g1, g2, g3⟩ := hc i hi
      exact ⟨cs, g1, g2, fun _ => g3⟩)
    have hlen : ∀ cs ∈ (List.range xs.length).map f, cs.length = k := fun cs hcs => by
      obtain ⟨i, hi, rfl⟩ := List.mem_map.1 hcs
      exact (hf i (List.mem_range.1 hi)).1
    refine ⟨(List.range xs.length).map f, by simp, hlen, fun i hi => ?_, .inr ⟨b, o, rfl, hS, fun j u hj => ?_⟩⟩
    · simpa using (hf i hi).2.2 hi
    · have hjl := (List.getElem?_eq_some_iff.1 hj).1
      rw [flat_len _ hlen] at hjl
      simp only [List.length_map, List.length_range] at hjl
      have hq : j / k < xs.length := (Nat.div_lt_iff_lt_mul hk0).2 hjl
      have hr : j % k < k := Nat.mod_lt _ hk0
      have e : j = j / k * k + j % k := by have := Nat.div_add_mod j k; rw [Nat.mul_comm] at this; omega
      have h1 := flat_at _ hlen (j / k) (by simpa using hq) (j % k) hr
      rw [← e, hj] at h1
      simp only [List.getElem_map, List.getElem_range] at h1
      obtain ⟨g1, g2, g3⟩ := hf _ hq
      rw [List.getElem?_eq_getElem (by omega)] at h1
      have := g2 (j % k) (by omega)
      rw [Nat.add_assoc, ← e] at this
      rw [this]
      exact h1.symm

/-- A slice out of a row of the call's own. -/
theorem Sl.of_own {α : Type} {k bytes : Nat} {R : World → List Value → α → Prop} {w : World} {B : Nat} {E : TypeId} {v : Value} {n : Nat} {css : List (List Value)} {xs : List α} (h : w.ownsRow B E k v n css.flatten) (hl : css.length = xs.length) (hn : n = xs.length) (hk : ∀ cs ∈ css, cs.length = k)
    (hR : ∀ i (h : i < xs.length), R w (css[i]'(hl ▸ h)) xs[i]) (hby : n * bytes ≤ 140737488355328) (S : Nat → Prop) (hS : ∀ b, v.ownBlock = some b → S b) : Sl S k bytes R w v xs := by
  obtain ⟨h1, h2⟩ := h
  subst hn
  rcases h2 with ⟨rfl, h2⟩ | ⟨g, cap, cur, rfl, hg, hh, hc, _, hcur, htake⟩
  · have : xs = [] := List.eq_nil_of_length_eq_zero h2
    subst this
    exact ⟨none, 0, rfl, Nat.le_refl _, by simp, .inl rfl⟩
  · refine Sl.of_block hh (hS g rfl) css hl hk (rest := cur.toList.drop (xs.length * k)) ?_ hR rfl hc hby
    rw [← htake, List.take_append_drop]

def zeroM : Value := .agg #[.string ⟨#[]⟩, .string ⟨#[]⟩, .int .i64 0, .int .i64 0, .int .i64 0, .slice none 0 0]
def zeroI : Value := .agg #[.int .i64 0, .int .i64 0, .string ⟨#[]⟩, .bool false, .string ⟨#[]⟩, .string ⟨#[]⟩, .string ⟨#[]⟩]
theorem info_M : (Tryz.prog.info? 55).map (fun i => (i.zero, i.size, i.bytes)) = some (some zeroM, 6, 80) := by kernel_rfl
theorem info_I : (Tryz.prog.info? 120).map (fun i => (i.zero, i.size, i.bytes)) = some (some zeroI, 7, 88) := by kernel_rfl

theorem CloneM (ad : Option Addr) (n c : Nat) (css : List (List Value)) (w : World) (hn : css.flatten.length = n * 6) (hby : n * 80 ≤ 140737488355328) (h0 : ad = none → n = 0)
    (hc : ∀ a, ad = some a → ∀ j u, css.flatten[j]? = some u → w.cell? (a.add j) = some u) (h1 : ∀ u ∈ css.flatten, u.oneCell' = true) :
    Calls Tryz.prog 91 #[.slice ad n c] w fun e w' => ∃ v', e = .returned v' ∧ w'.ownsRow w.heap.size 55 6 v' n css.flatten ∧ Below w.heap.size w w' := by
  obtain ⟨i0, hi, hz0, hz1, hz2⟩ := info_parts info_M
  have q22 : ∀ (w : World) (a : Option Addr) (n c n' c' : Nat), (binOp .eql 24 (.slice a n c) (.slice none n' c')).run Tryz.prog w = .ok (.bool a.isNone) w := fun w a n c n' c' => Lib.run_eql_slice_nil w _ _ a n c n' c' Tryz.underlying24
  cases ad with
  | none =>
    have hn0 := h0 rfl
    subst hn0
    have hf : css.flatten = [] := List.eq_nil_of_length_eq_zero (by omega)
    rw [hf]
    clear hc h1 hn h0
    go_enter Tryz.func91, Tryz.ntmps91
    go_wp2
    go_ret
    exact ⟨_, rfl, ⟨rfl, .inl ⟨rfl, rfl⟩⟩, Below.refl _ _⟩
  | some ad =>
    have HC := Lib.hid (hc ad rfl)
    have H1 := Lib.hid h1
    have HN := Lib.hid hn
    clear hc h1 hn h0
    generalize css.flatten = news at HC H1 HN
    go_enter Tryz.func91, Tryz.ntmps91
    go_wp2_with (at_builtin; refine wpList_append_own _ rfl _ _ 24 rfl w.heap.size 55 i0 zeroM 6 80 Tryz.underlying24 hi hz0 hz1 hz2 rfl (by decide) _ _ _ rfl (World.ownsRow_made w #[] 0 (Nat.le_refl _) (Nat.zero_le _) rfl) ad n c news rfl HN.out ?qc2 H1.out ?qc4 ?qc5 ?qc6 ?_)
    case qc2 => exact fun j u hj => Lib.cell?_alloc_some _ (HC.out j u hj)
    case qc4 => unfold maxLen; omega
    case qc5 => omega
    case qc6 => simp
    intro v' w1 hown hgrow hnil
    go_wp2
    go_ret
    exact ⟨v', rfl, by simpa using hown, ((Below.refl _ w).alloc (Nat.le_refl _) _).grown hgrow (by simp) (by intro k hk; simp [Value.ownBlock] at hk; omega)⟩

theorem CloneI (ad : Option Addr) (n c : Nat) (css : List (List Value)) (w : World) (hn : css.flatten.length = n * 7) (hby : n * 88 ≤ 140737488355328) (h0 : ad = none → n = 0)
    (hc : ∀ a, ad = some a → ∀ j u, css.flatten[j]? = some u → w.cell? (a.add j) = some u) (h1 : ∀ u ∈ css.flatten, u.oneCell' = true) :
    Calls Tryz.prog 62 #[.slice ad n c] w fun e w' => ∃ v', e = .returned v' ∧ w'.ownsRow w.heap.size 120 7 v' n css.flatten ∧ Below w.heap.size w w' := by
  obtain ⟨i0, hi, hz0, hz1, hz2⟩ := info_parts info_I
  have q22 : ∀ (w : World) (a : Option Addr) (n c n' c' : Nat), (binOp .eql 53 (.slice a n c) (.slice none n' c')).run Tryz.prog w = .ok (.bool a.isNone) w := fun w a n c n' c' => Lib.run_eql_slice_nil w _ _ a n c n' c' Tryz.underlying53
  cases ad with
  | none =>
    have hn0 := h0 rfl
    subst hn0
    have hf : css.flatten = [] := List.eq_nil_of_length_eq_zero (by omega)
    rw [hf]
    clear hc h1 hn h0
    go_enter Tryz.func62, Tryz.ntmps62
    go_wp2
    go_ret
    exact ⟨_, rfl, ⟨rfl, .inl ⟨rfl, rfl⟩⟩, Below.refl _ _⟩
  | some ad =>
    have HC := Lib.hid (hc ad rfl)
    have H1 := Lib.hid h1
    have HN := Lib.hid hn
    clear hc h1 hn h0
    generalize css.flatten = news at HC H1 HN
    go_enter Tryz.func62, Tryz.ntmps62
    go_wp2_with (at_builtin; refine wpList_append_own _ rfl _ _ 53 rfl w.heap.size 120 i0 zeroI 7 88 Tryz.underlying53 hi hz0 hz1 hz2 rfl (by decide) _ _ _ rfl (World.ownsRow_made w #[] 0 (Nat.le_refl _) (Nat.zero_le _) rfl) ad n c news rfl HN.out ?qc2 H1.out ?qc4 ?qc5 ?qc6 ?_)
    case qc2 => exact fun j u hj => Lib.cell?_alloc_some _ (HC.out j u hj)
    case qc4 => unfold maxLen; omega
    case qc5 => omega
    case qc6 => simp
    intro v' w1 hown hgrow hnil
    go_wp2
    go_ret
    exact ⟨v', rfl, by simpa using hown, ((Below.refl _ w).alloc (Nat.le_refl _) _).grown hgrow (by simp) (by intro k hk; simp [Value.ownBlock] at hk; omega)⟩

theorem info_S : (Tryz.prog.info? 9).map (fun i => (i.zero, i.size, i.bytes)) = some (some (.string ⟨#[]⟩), 1, 16) := by kernel_rfl
theorem CloneS (ad : Option Addr) (n c : Nat) (css : List (List Value)) (w : World) (hn : css.flatten.length = n * 1) (hby : n * 16 ≤ 140737488355328) (h0 : ad = none → n = 0)
    (hc : ∀ a, ad = some a → ∀ j u, css.flatten[j]? = some u → w.cell? (a.add j) = some u) (h1 : ∀ u ∈ css.flatten, u.oneCell' = true) :
    Calls Tryz.prog 90 #[.slice ad n c] w fun e w' => ∃ v', e = .returned v' ∧ w'.ownsRow w.heap.size 9 1 v' n css.flatten ∧ Below w.heap.size w w' := by
  obtain ⟨i0, hi, hz0, hz1, hz2⟩ := info_parts info_S
  have q22 : ∀ (w : World) (a : Option Addr) (n c n' c' : Nat), (binOp .eql 23 (.slice a n c) (.slice none n' c')).run Tryz.prog w = .ok (.bool a.isNone) w := fun w a n c n' c' => Lib.run_eql_slice_nil w _ _ a n c n' c' Tryz.underlying23
  cases ad with
  | none =>
    have hn0 := h0 rfl
    subst hn0
    have hf : css.flatten = [] := List.eq_nil_of_length_eq_zero (by omega)
    rw [hf]
    clear hc h1 hn h0
    go_enter Tryz.func90, Tryz.ntmps90
    go_wp2
    go_ret
    exact ⟨_, rfl, ⟨rfl, .inl ⟨rfl, rfl⟩⟩, Below.refl _ _⟩
  | some ad =>
    have HC := Lib.hid (hc ad rfl)
    have H1 := Lib.hid h1
    have HN := Lib.hid hn
    clear hc h1 hn h0
    generalize css.flatten = news at HC H1 HN
    go_enter Tryz.func90, Tryz.ntmps90
    go_wp2_with (at_builtin; refine wpList_append_own _ rfl _ _ 23 rfl w.heap.size 9 i0 (.string ⟨#[]⟩) 1 16 Tryz.underlying23 hi hz0 hz1 hz2 rfl (by decide) _ _ _ rfl (World.ownsRow_made w #[] 0 (Nat.le_refl _) (Nat.zero_le _) rfl) ad n c news rfl HN.out ?qc2 H1.out ?qc4 ?qc5 ?qc6 ?_)
    case qc2 => exact fun j u hj => Lib.cell?_alloc_some _ (HC.out j u hj)
    case qc4 => unfold maxLen; omega
    case qc5 => omega
    case qc6 => simp
    intro v' w1 hown hgrow hnil
    go_wp2
    go_ret
    exact ⟨v', rfl, by simpa using hown, ((Below.refl _ w).alloc (Nat.le_refl _) _).grown hgrow (by simp) (by intro k hk; simp [Value.ownBlock] at hk; omega)⟩
end Go.Proofs.YtipinmbpdgjalaaGreatDoor.Hi
/- A class copied into memory of its own. -/
set_option maxRecDepth 100000
set_option maxHeartbeats 4000000
set_option linter.unusedVariables false
set_option linter.unusedSimpArgs false
namespace Go.Proofs.YtipinmbpdgjalaaGreatDoor.Hi
open Go.RowKit Bs

/-- In the midst of copying. -/
structure CopyAt (w : World) (S : Nat → Prop) (c : ClsM) (g z1 z2 : Nat) (v1 v2 : Value) (k : Nat) (wr : World) : Prop where
  below : Below w.heap.size w wr
  size : w.heap.size + 2 ≤ z1 ∧ z1 ≤ z2 ∧ z2 ≤ wr.heap.size
  at_ : 0 < c.meths.length → z1 ≤ g ∧ g < z2
  box : ∀ j v, (#[Value.string c.name, .string c.super, v1, .int .i64 c.flags, .int .i64 c.loader, v2])[j]? = some v → wr.cell? ⟨w.heap.size, j, none⟩ = some v
  res : ∀ j v, (#[Value.string ⟨#[]⟩, .string ⟨#[]⟩, .slice none 0 0, .int .i64 0, .int .i64 0, .slice none 0 0])[j]? = some v → wr.cell? ⟨w.heap.size + 1, j, none⟩ = some v
  resThaw : ∀ j, wr.frozen? ⟨w.heap.size + 1, j, none⟩ = false
  ifs : StrSl (fun b => w.heap.size + 2 ≤ b ∧ b < z1) wr v1 c.ifaces
  row : ∀ i (h : i < c.meths.length), ∃ cv, (∀ j v, (#[Value.string c.meths[i].name, .string c.meths[i].desc, .int .i64 c.meths[i].flags, .int .i64 c.meths[i].locals, .int .i64 c.meths[i].stack, cv])[j]? = some v → wr.cell? ⟨g, i * 6 + j, none⟩ = some v) ∧
    (i < k → InstSl (fun b => z2 ≤ b ∧ b < wr.heap.size) wr cv c.meths[i].code) ∧ (k ≤ i → InstSl S wr cv c.meths[i].code)
  boxThaw : ∀ j, wr.frozen? ⟨w.heap.size, j, none⟩ = false
  thaw : 0 < c.meths.length → ∀ j, wr.frozen? ⟨g, j, none⟩ = false

theorem CopyAt.next {w : World} {S : Nat → Prop} {c : ClsM} {g z1 z2 : Nat} {v1 v2 : Value} {k : Nat} {wr w' : World} {cv : Value} (h : CopyAt w S c g z1 z2 v1 v2 k wr) (hb : Below wr.heap.size wr w') (hk : k < c.meths.length)
    (hS : ∀ b, S b → b < w.heap.size) (hc : InstSl (fun b => wr.heap.size ≤ b ∧ b < w'.heap.size) w' cv c.meths[k].code) : CopyAt w S c g z1 z2 v1 v2 (k + 1) (w'.setCell ⟨g, k * 6 + 5, none⟩ cv) := by
  obtain ⟨s1, s2', s4⟩ := h.size
  obtain ⟨s2, s3⟩ := h.at_ (by omega)
  have hz := hb.size
  have hbk : ∀ b, b < wr.heap.size → b ≠ g → (w'.setCell ⟨g, k * 6 + 5, none⟩ cv).heap[b]? = wr.heap[b]? := fun b h1 h2 => (Below.heap_setCell _ _ _ _ h2).trans (hb.block b h1)
  have hblk : ∀ {b j : Nat} {v : Value}, b < wr.heap.size → b ≠ g → wr.cell? ⟨b, j, none⟩ = some v → (w'.setCell ⟨g, k * 6 + 5, none⟩ cv).cell? ⟨b, j, none⟩ = some v := fun h1 h2 h3 => (World.cell?_of_block (w := wr) (hbk _ h1 h2)).trans h3
  have hbn : ∀ b, b ≠ g → (w'.setCell ⟨g, k * 6 + 5, none⟩ cv).heap[b]? = w'.heap[b]? := fun b h2 => Below.heap_setCell _ _ _ _ h2
  refine ⟨?_, by simp; omega, h.at_, fun j v hv => hblk (by omega) (by omega) (h.box j v hv), fun j v hv => hblk (by omega) (by omega) (h.res j v hv), fun j => ?_, h.ifs.alike fun b hb' => hbk b (by omega) (by omega), fun i hi => ?_, fun j => ?_, fun _ j => ?_⟩
  · exact (h.below.trans (hb.mono h.below.size)).setCell (by simp; omega) _
  · rw [World.frozen?_setCell]
    exact (World.frozen?_of_block (w := wr) (a := ⟨w.heap.size + 1, j, none⟩) (hb.block _ (show w.heap.size + 1 < wr.heap.size by omega))).trans (h.resThaw j)
  · obtain ⟨cw, r1, r2, r3⟩ := h.row i hi
    have hg : ∀ j v, wr.cell? ⟨g, j, none⟩ = some v → w'.cell? ⟨g, j, none⟩ = some v := fun j v hv => (World.cell?_of_block (w := wr) (hb.block g (by omega))).trans hv
    by_cases e : i = k
    · subst e
      refine ⟨cv, fun j v hv => ?_, fun _ => ?_, fun h => by omega⟩
      · by_cases e5 : j = 5
        · subst e5
          obtain rfl : cv = v := by simpa using hv
          exact setCell_same (hg _ _ (r1 5 _ rfl))
        · rw [setCell_off (by omega)]
          refine hg _ _ (r1 j v ?_)
          match j, e5, hv with
          | 0, _, hv => exact hv
          | 1, _, hv => exact hv
          | 2, _, hv => exact hv
          | 3, _, hv => exact hv
          | 4, _, hv => exact hv
          | j + 6, _, hv => simp at hv
      · exact (InstSl.alike hc fun b hb' => hbn b (by omega)).mono fun b hb' => ⟨by omega, by simp; omega⟩
    · refine ⟨cw, fun j v hv => ?_, fun hik => ?_, fun hik => ?_⟩
      · have hj : j < 6 := by
          have := (Array.getElem?_eq_some_iff.1 hv).1
          simpa using this
        rw [setCell_off (by omega)]
        exact hg _ _ (r1 j v hv)
      · exact ((r2 (by omega)).alike fun b hb' => hbk b (by omega) (by omega)).mono fun b hb' => ⟨hb'.1, by simp; omega⟩
      · exact (r3 (by omega)).alike fun b hb' => hbk b (by have := hS b hb'; have := h.below.size; omega) (by have := hS b hb'; omega)
  · rw [World.frozen?_setCell]
    exact (World.frozen?_of_block (w := wr) (a := ⟨w.heap.size, j, none⟩) (hb.block _ (show w.heap.size < wr.heap.size by omega))).trans (h.boxThaw j)
  · rw [World.frozen?_setCell]
    exact (World.frozen?_of_block (w := wr) (a := ⟨g, j, none⟩) (hb.block _ (show g < wr.heap.size by omega))).trans (h.thaw (by omega) j)

theorem CopyAt.done {w : World} {S : Nat → Prop} {c : ClsM} {g z1 z2 : Nat} {v1 v2 : Value} {wr w' : World} (h : CopyAt w S c g z1 z2 v1 v2 c.meths.length wr) (p1 : c.name.size ≤ maxLen) (p2 : c.super.size ≤ maxLen) (p3 : Fits c.flags) (p4 : Fits c.loader)
    (hms : ∀ i (h : i < c.meths.length), c.meths[i].name.size ≤ maxLen ∧ c.meths[i].desc.size ≤ maxLen ∧ Fits c.meths[i].flags ∧ Fits c.meths[i].locals ∧ Fits c.meths[i].stack)
    (hv : ∃ a cap, v2 = .slice a c.meths.length cap ∧ c.meths.length ≤ cap ∧ c.meths.length * 80 ≤ 140737488355328 ∧ (0 < c.meths.length → a = some ⟨g, 0, none⟩)) (hz : wr.heap.size ≤ w'.heap.size)
    (ha : ∀ b, w.heap.size + 2 ≤ b → b < wr.heap.size → w'.heap[b]? = wr.heap[b]?) :
    ClsIs (fun b => w.heap.size ≤ b ∧ b < w'.heap.size) w' [.string c.name, .string c.super, v1, .int .i64 c.flags, .int .i64 c.loader, v2] c := by
  obtain ⟨s1, s2', s4⟩ := h.size
  obtain ⟨a, cap, rfl, hc1, hc2, hc3⟩ := hv
  refine ⟨v1, _, rfl, p1, p2, (h.ifs.alike fun b hb => ha b hb.1 (by omega)).mono fun b hb => ⟨by omega, by omega⟩, p3, p4, _, cap, rfl, hc1, hc2, ?_⟩
  by_cases h0 : 0 < c.meths.length
  case neg => exact .inl (List.eq_nil_of_length_eq_zero (by omega))
  obtain ⟨s2, s3⟩ := h.at_ h0
  obtain rfl := hc3 h0
  refine .inr ⟨g, 0, rfl, ⟨by omega, by omega⟩, fun i hi => ?_⟩
  obtain ⟨cv, r1, r2, _⟩ := h.row i hi
  obtain ⟨m1, m2, m3, m4, m5⟩ := hms i hi
  refine ⟨[.string c.meths[i].name, .string c.meths[i].desc, .int .i64 c.meths[i].flags, .int .i64 c.meths[i].locals, .int .i64 c.meths[i].stack, cv], rfl, fun j hj => ?_, cv, rfl, m1, m2, m3, m4, m5, ((r2 hi).alike fun b hb => ha b (by omega) hb.2).mono fun b hb => ⟨by omega, by omega⟩⟩
  rw [Nat.zero_add]
  refine (World.cell?_of_block (w := wr) (ha g (by omega) (by omega))).trans (r1 j _ ?_)
  rw [← Array.getElem?_toList]
  exact List.getElem?_eq_getElem hj

theorem own_at {w : World} {B : Nat} {E : TypeId} {size g n m cap : Nat} {xs : List Value} (h : w.ownsRow B E size (.slice (some ⟨g, 0, none⟩) m cap) n xs) :
    n ≤ cap ∧ (∀ j u, xs[j]? = some u → w.cell? ⟨g, j, none⟩ = some u) ∧ ∀ j, w.frozen? ⟨g, j, none⟩ = false := by
  obtain ⟨h1, ⟨h2, _⟩ | ⟨g', cap', cur, e, hg, hh, hc, _, hcur, htake⟩⟩ := h
  · cases h2
  · injection e with e1 e2 e3
    subst e3
    injection e1 with e1
    injection e1 with e1
    subst e1
    refine ⟨hc, fun j u hj => ?_, fun j => ?_⟩
    · have hjl := (List.getElem?_eq_some_iff.1 hj).1
      rw [← htake, List.getElem?_take, if_pos (by omega)] at hj
      simp only [World.cell?, hh]
      simpa using hj
    · unfold World.frozen?
      rw [hh]
      simp

theorem set_box {w : World} {b j0 : Nat} {v : Value} {vs : Array Value} (h : ∀ j u, vs[j]? = some u → w.cell? ⟨b, j, none⟩ = some u) (h0 : j0 < vs.size) : ∀ j u, (vs.set j0 v)[j]? = some u → (w.setCell ⟨b, j0, none⟩ v).cell? ⟨b, j, none⟩ = some u := by
  intro j u hu
  by_cases e : j0 = j
  · subst e
    rw [Array.getElem?_set_self] at hu
    injection hu with hu
    subst hu
    exact setCell_same (h j0 _ (Array.getElem?_eq_getElem h0))
  · rw [Array.getElem?_set, if_neg e] at hu
    rw [setCell_off (.inr e)]
    exact h j u hu

theorem CopyAt.drew {w : World} {S : Nat → Prop} {c : ClsM} {g z1 z2 : Nat} {v1 v2 : Value} {k : Nat} {wr : World} (h : CopyAt w S c g z1 z2 v1 v2 k wr) : CopyAt w S c g z1 z2 v1 v2 k wr.drew :=
  ⟨h.below.drew, h.size, h.at_, h.box, h.res, h.resThaw, h.ifs.alike fun _ _ => rfl, fun i hi => by
    obtain ⟨cv, r1, r2, r3⟩ := h.row i hi
    exact ⟨cv, r1, fun h => (r2 h).alike fun _ _ => rfl, fun h => (r3 h).alike fun _ _ => rfl⟩, h.boxThaw, h.thaw⟩

theorem clone_insts {S : Nat → Prop} {w : World} {a : Option Addr} {n c : Nat} {xs : List InstM} (h : InstSl S w (.slice a n c) xs) :
    Calls Tryz.prog 62 #[.slice a n c] w fun e w' => ∃ a' c', e = .returned (.slice a' n c') ∧ InstSl (fun b => w.heap.size ≤ b ∧ b < w'.heap.size) w' (.slice a' n c') xs ∧ Below w.heap.size w w' := by
  obtain ⟨rfl, in2, in3, css, il, ik, iR, ic'⟩ := h.rows (by decide)
  refine (CloneI a _ c css w (by rw [flat_len _ ik, il]) in3 (fun h => ?_) (fun a ha j u hj => ?_) (fun u hu => ?_)).mono ?_
  · rcases ic' with h0 | ⟨b, o, e, _⟩
    · rw [h0]; rfl
    · rw [h] at e; cases e
  · rcases ic' with h0 | ⟨b, o, e, _, hcell⟩
    · rw [show css = [] from List.eq_nil_of_length_eq_zero (by rw [il, h0]; rfl)] at hj
      simp at hj
    · rw [ha] at e
      injection e with e
      subst e
      rw [Addr.add_lit]
      exact hcell j u hj
  · obtain ⟨l, hl, hu'⟩ := List.mem_flatten.1 hu
    obtain ⟨i, hi', rfl⟩ := List.getElem_of_mem hl
    obtain ⟨e, _⟩ := iR i (by omega)
    rw [e] at hu'
    simp only [List.mem_cons, List.not_mem_nil, or_false] at hu'
    rcases hu' with rfl | rfl | rfl | rfl | rfl | rfl | rfl <;> rfl
  rintro e w1 ⟨v1, rfl, hv1, hb1⟩
  obtain ⟨a1, k1, rfl⟩ := own_slice hv1
  refine ⟨a1, k1, rfl, Sl.of_own hv1 il rfl ik (fun i hi => iR i hi) in3 _ fun b hb => ?_, hb1⟩
  have := own_live hv1 hb
  omega

theorem frozen_new (w : World) (cs : Array Value) (t : TypeId) (j : Nat) : (w.alloc (.cells cs t)).frozen? ⟨w.heap.size, j, none⟩ = false := by
  unfold World.frozen?
  rw [heap_alloc_new]
  simp

theorem copied (S : Nat → Prop) (c : ClsM) (cs : List Value) (w : World) (hc : ClsIs S w cs c) (hS : ∀ k, S k → k < w.heap.size) :
    Calls Tryz.prog 52 #[.agg cs.toArray] w fun e w' => ∃ cs', e = .returned (.agg cs'.toArray) ∧ ClsIs (fun b => w.heap.size ≤ b ∧ b < w'.heap.size) w' cs' c ∧ Below w.heap.size w w' := by
  obtain ⟨iv, mv, rfl, p1, p2, hi, p3, p4, hm⟩ := hc
  obtain ⟨ia, ic, rfl, _⟩ := id hi
  obtain ⟨ma, mc, rfl, _⟩ := id hm
  rw [show [Value.string c.name, .string c.super, .slice ia c.ifaces.length ic, .int .i64 c.flags, .int .i64 c.loader, .slice ma c.meths.length mc].toArray = #[Value.string c.name, .string c.super, .slice ia c.ifaces.length ic, .int .i64 c.flags, .int .i64 c.loader, .slice ma c.meths.length mc] from rfl]
  obtain ⟨w0, hw0⟩ : ∃ w0, w0 = (w.alloc (.cells #[.string c.name, .string c.super, .slice ia c.ifaces.length ic, .int .i64 c.flags, .int .i64 c.loader, .slice ma c.meths.length mc] 26)).alloc (.cells #[.string ⟨#[]⟩, .string ⟨#[]⟩, .slice none 0 0, .int .i64 0, .int .i64 0, .slice none 0 0] 26) := ⟨_, rfl⟩
  have b0 : ∀ j v, (#[Value.string c.name, .string c.super, .slice ia c.ifaces.length ic, .int .i64 c.flags, .int .i64 c.loader, .slice ma c.meths.length mc])[j]? = some v → w0.cell? ⟨w.heap.size, j, none⟩ = some v := fun j v hv => by
    rw [hw0]
    exact alloc_old ((World.cell?_alloc_new ..).trans hv)
  have r0 : ∀ j v, (#[Value.string ⟨#[]⟩, .string ⟨#[]⟩, .slice none 0 0, .int .i64 0, .int .i64 0, .slice none 0 0])[j]? = some v → w0.cell? ⟨w.heap.size + 1, j, none⟩ = some v := fun j v hv => by
    rw [hw0]
    have := World.cell?_alloc_new (w.alloc (.cells #[.string c.name, .string c.super, .slice ia c.ifaces.length ic, .int .i64 c.flags, .int .i64 c.loader, .slice ma c.meths.length mc] 26)) #[.string ⟨#[]⟩, .string ⟨#[]⟩, .slice none 0 0, .int .i64 0, .int .i64 0, .slice none 0 0] 26 j
    rw [World.size_alloc] at this
    exact this.trans hv
  have f0 : ∀ j, w0.frozen? ⟨w.heap.size, j, none⟩ = false ∧ w0.frozen? ⟨w.heap.size + 1, j, none⟩ = false := fun j => by
    rw [hw0]
    refine ⟨?_, ?_⟩
    · exact (World.frozen?_of_block (a := ⟨w.heap.size, j, none⟩) (Below.heap_alloc _ _ _ (by simp))).trans (frozen_new ..)
    · have := frozen_new (w.alloc (.cells #[.string c.name, .string c.super, .slice ia c.ifaces.length ic, .int .i64 c.flags, .int .i64 c.loader, .slice ma c.meths.length mc] 26)) #[.string ⟨#[]⟩, .string ⟨#[]⟩, .slice none 0 0, .int .i64 0, .int .i64 0, .slice none 0 0] 26 j
      rw [World.size_alloc] at this
      exact this
  have hz0 : w0.heap.size = w.heap.size + 2 := by rw [hw0]; simp
  have hb0 : Below w.heap.size w w0 := by rw [hw0]; exact ((Below.refl _ _).alloc (Nat.le_refl _) _).alloc (by simp) _
  go_enter Tryz.func52, Tryz.ntmps52
  go_wp2_with fail
  rw [← hw0]
  obtain ⟨in1, in2, in3, cssi, il, ik, iR, ic'⟩ := (hi.alike (Alike.of_below hb0 hS)).rows (by decide)
  refine (CloneS ia _ ic cssi w0 (by rw [flat_len _ ik, il]) in3 (fun h => ?_) (fun a ha j u hj => ?_) (fun u hu => ?_)).mono ?_
  · rcases ic' with h0 | ⟨b, o, e, _⟩
    · rw [h0]; rfl
    · rw [h] at e; cases e
  · rcases ic' with h0 | ⟨b, o, e, _, hcell⟩
    · rw [show cssi = [] from List.eq_nil_of_length_eq_zero (by rw [il, h0]; rfl)] at hj
      simp at hj
    · rw [ha] at e
      injection e with e
      subst e
      rw [Addr.add_lit]
      exact hcell j u hj
  · obtain ⟨l, hl, hu'⟩ := List.mem_flatten.1 hu
    obtain ⟨i, hi', rfl⟩ := List.getElem_of_mem hl
    obtain ⟨e, _⟩ := iR i (by omega)
    rw [e] at hu'
    obtain rfl := List.mem_singleton.1 hu'
    rfl
  rintro e w1 ⟨v1, rfl, hv1, hb1⟩
  obtain ⟨a1, k1, rfl⟩ := own_slice hv1
  have hz1 := hb1.size
  have hifs : StrSl (fun b => w.heap.size + 2 ≤ b ∧ b < w1.heap.size) w1 (.slice a1 c.ifaces.length k1) c.ifaces := Sl.of_own hv1 il rfl ik (fun i hi => iR i hi) in3 _ fun b hb => by
    have := own_live hv1 hb
    omega
  have cel : ∀ j v, (#[Value.string c.name, .string c.super, .slice ia c.ifaces.length ic, .int .i64 c.flags, .int .i64 c.loader, .slice ma c.meths.length mc])[j]? = some v → w1.cell? ⟨w.heap.size, j, none⟩ = some v := fun j v hv => below_cell' hb1 (b0 j v hv)
  have c0 := cel 0 _ rfl
  have c1 := cel 1 _ rfl
  have c2 := cel 2 _ rfl
  have c3 := cel 3 _ rfl
  have c4 := cel 4 _ rfl
  have c5 := cel 5 _ rfl
  have fz : ∀ j, w1.frozen? ⟨w.heap.size, j, none⟩ = false := fun j => (World.frozen?_of_block (w := w0) (a := ⟨w.heap.size, j, none⟩) (hb1.block _ (show w.heap.size < w0.heap.size by omega))).trans (f0 j).1
  have fz2 := fz 2
  have fz5 := fz 5
  simp only [List.getElem_toArray, List.getElem_cons_zero, List.getElem_cons_succ] at c0 c1 c2 c3 c4 c5
  go_wp2_with fail
  obtain ⟨W1, hW1⟩ : ∃ W1, W1 = w1.setCell ⟨w.heap.size, 2, none⟩ (.slice a1 c.ifaces.length k1) := ⟨_, rfl⟩
  have hzW : W1.heap.size = w1.heap.size := by rw [hW1]; simp
  have bx1 : ∀ j v, (#[Value.string c.name, .string c.super, .slice a1 c.ifaces.length k1, .int .i64 c.flags, .int .i64 c.loader, .slice ma c.meths.length mc])[j]? = some v → W1.cell? ⟨w.heap.size, j, none⟩ = some v := by
    rw [hW1]
    exact set_box (j0 := 2) (v := .slice a1 c.ifaces.length k1) cel (by simp)
  have offB : ∀ b, b ≠ w.heap.size → W1.heap[b]? = w1.heap[b]? := fun b h => by rw [hW1]; exact Below.heap_setCell _ _ _ _ h
  have hB1 : Below w.heap.size w W1 := by rw [hW1]; exact (hb0.trans (hb1.mono (by omega))).setCell (Nat.le_refl _) _
  have fzW : ∀ j, W1.frozen? ⟨w.heap.size, j, none⟩ = false := fun j => by rw [hW1, World.frozen?_setCell]; exact fz j
  have hifs1 : StrSl (fun b => w.heap.size + 2 ≤ b ∧ b < w1.heap.size) W1 (.slice a1 c.ifaces.length k1) c.ifaces := hifs.alike fun b hb => offB b (by omega)
  have rs1 : ∀ j v, (#[Value.string ⟨#[]⟩, .string ⟨#[]⟩, .slice none 0 0, .int .i64 0, .int .i64 0, .slice none 0 0])[j]? = some v → W1.cell? ⟨w.heap.size + 1, j, none⟩ = some v := fun j v hv => (World.cell?_of_block (w := w1) (a := ⟨w.heap.size + 1, j, none⟩) (offB _ (show w.heap.size + 1 ≠ w.heap.size by omega))).trans (below_cell' hb1 (r0 j v hv))
  have fr1 : ∀ j, W1.frozen? ⟨w.heap.size + 1, j, none⟩ = false := fun j => (World.frozen?_of_block (w := w1) (a := ⟨w.heap.size + 1, j, none⟩) (offB _ (show w.heap.size + 1 ≠ w.heap.size by omega))).trans ((World.frozen?_of_block (w := w0) (a := ⟨w.heap.size + 1, j, none⟩) (hb1.block _ (show w.heap.size + 1 < w0.heap.size by omega))).trans (f0 j).2)
  rw [← hW1]
  have hm1 := hm.alike (Alike.of_below hB1 hS)
  obtain ⟨mn1, mn2, mn3, cssm, ml, mk, mR, mc'⟩ := hm1.rows (by decide)
  refine (CloneM ma _ mc cssm W1 (by rw [flat_len _ mk, ml]) mn3 (fun h => ?_) (fun a ha j u hj => ?_) (fun u hu => ?_)).mono ?_
  · rcases mc' with h0 | ⟨b, o, e, _⟩
    · rw [h0]; rfl
    · rw [h] at e; cases e
  · rcases mc' with h0 | ⟨b, o, e, _, hcell⟩
    · rw [show cssm = [] from List.eq_nil_of_length_eq_zero (by rw [ml, h0]; rfl)] at hj
      simp at hj
    · rw [ha] at e
      injection e with e
      subst e
      rw [Addr.add_lit]
      exact hcell j u hj
  · obtain ⟨l, hl, hu'⟩ := List.mem_flatten.1 hu
    obtain ⟨i, hi', rfl⟩ := List.getElem_of_mem hl
    obtain ⟨cv, e, _, _, _, _, _, hcv⟩ := mR i (by omega)
    obtain ⟨ca, cc, rfl, _⟩ := hcv
    rw [e] at hu'
    simp only [List.mem_cons, List.not_mem_nil, or_false] at hu'
    rcases hu' with rfl | rfl | rfl | rfl | rfl | rfl <;> rfl
  rintro e w2 ⟨v2, rfl, hv2, hb2⟩
  obtain ⟨a2, k2, rfl⟩ := own_slice hv2
  have hz2 := hb2.size
  have cel2 : ∀ j v, (#[Value.string c.name, .string c.super, .slice a1 c.ifaces.length k1, .int .i64 c.flags, .int .i64 c.loader, .slice ma c.meths.length mc])[j]? = some v → w2.cell? ⟨w.heap.size, j, none⟩ = some v := fun j v hv => below_cell' hb2 (bx1 j v hv)
  have d5 : w2.cell? ⟨w.heap.size, 5, none⟩ = some (.slice ma c.meths.length mc) := cel2 5 _ rfl
  have fz2' : ∀ j, w2.frozen? ⟨w.heap.size, j, none⟩ = false := fun j => (World.frozen?_of_block (w := W1) (a := ⟨w.heap.size, j, none⟩) (hb2.block _ (show w.heap.size < W1.heap.size by omega))).trans (fzW j)
  have gz5 := fz2' 5
  obtain ⟨wr, hwr⟩ : ∃ wr, wr = w2.setCell ⟨w.heap.size, 5, none⟩ (.slice a2 c.meths.length k2) := ⟨_, rfl⟩
  have key : ∃ g, (0 < c.meths.length → a2 = some ⟨g, 0, none⟩) ∧ CopyAt w S c g w1.heap.size w2.heap.size (.slice a1 c.ifaces.length k1) (.slice a2 c.meths.length k2) 0 wr := by
    have hzr : wr.heap.size = w2.heap.size := by rw [hwr]; simp
    have offR : ∀ b, b ≠ w.heap.size → wr.heap[b]? = w2.heap[b]? := fun b h => by rw [hwr]; exact Below.heap_setCell _ _ _ _ h
    have hBr : Below w.heap.size w wr := by rw [hwr]; exact (hB1.trans (hb2.mono (by omega))).setCell (Nat.le_refl _) _
    have base : ∀ g, (0 < c.meths.length → w1.heap.size ≤ g ∧ g < w2.heap.size) → (∀ i (h : i < c.meths.length), ∃ cv, (∀ j v, (#[Value.string c.meths[i].name, .string c.meths[i].desc, .int .i64 c.meths[i].flags, .int .i64 c.meths[i].locals, .int .i64 c.meths[i].stack, cv])[j]? = some v → wr.cell? ⟨g, i * 6 + j, none⟩ = some v) ∧
        (i < 0 → InstSl (fun b => w2.heap.size ≤ b ∧ b < wr.heap.size) wr cv c.meths[i].code) ∧ (0 ≤ i → InstSl S wr cv c.meths[i].code)) → (0 < c.meths.length → ∀ j, wr.frozen? ⟨g, j, none⟩ = false) →
        CopyAt w S c g w1.heap.size w2.heap.size (.slice a1 c.ifaces.length k1) (.slice a2 c.meths.length k2) 0 wr := fun g h1 h2 h3 =>
      ⟨hBr, by omega, h1, by rw [hwr]; exact set_box (j0 := 5) (v := .slice a2 c.meths.length k2) cel2 (by simp), fun j v hv => (World.cell?_of_block (w := w2) (a := ⟨w.heap.size + 1, j, none⟩) (offR _ (show w.heap.size + 1 ≠ w.heap.size by omega))).trans (below_cell' hb2 (rs1 j v hv)),
        fun j => (World.frozen?_of_block (w := w2) (a := ⟨w.heap.size + 1, j, none⟩) (offR _ (show w.heap.size + 1 ≠ w.heap.size by omega))).trans ((World.frozen?_of_block (w := W1) (a := ⟨w.heap.size + 1, j, none⟩) (hb2.block _ (show w.heap.size + 1 < W1.heap.size by omega))).trans (fr1 j)),
        hifs1.alike fun b hb => (offR b (by omega)).trans (hb2.block b (by omega)), h2, fun j => by rw [hwr, World.frozen?_setCell]; exact fz2' j, h3⟩
    cases a2 with
    | none =>
      have h0 : c.meths.length = 0 := by
        obtain ⟨_, ⟨_, h⟩ | ⟨g, cap, cur, e, _⟩⟩ := hv2
        · exact h
        · cases e
      exact ⟨0, fun h => by omega, base 0 (fun h => by omega) (fun i h => by omega) (fun h => by omega)⟩
    | some a2 =>
      obtain ⟨g, rfl⟩ : ∃ g, a2 = ⟨g, 0, none⟩ := by
        obtain ⟨_, ⟨h, _⟩ | ⟨g, cap, cur, e, _⟩⟩ := hv2
        · cases h
        · injection e with e; injection e with e; exact ⟨g, e⟩
      obtain ⟨o1, o2, o3⟩ := own_at hv2
      have hlv := own_live hv2 (g := g) rfl
      refine ⟨g, fun _ => rfl, base g (fun _ => by omega) (fun i hi => ?_) (fun _ j => ?_)⟩
      · obtain ⟨cv, e, _, _, _, _, _, hcv⟩ := mR i hi
        refine ⟨cv, fun j v hv => ?_, fun h => by omega, fun _ => hcv.alike fun b hb => (offR b (by have := hS b hb; omega)).trans (hb2.block b (by have := hS b hb; have := hB1.size; omega))⟩
        have hj : j < 6 := by
          have := (Array.getElem?_eq_some_iff.1 hv).1
          simpa using this
        refine (World.cell?_of_block (w := w2) (a := ⟨g, i * 6 + j, none⟩) (offR _ (show g ≠ w.heap.size by omega))).trans (o2 _ _ ?_)
        rw [flat_at cssm mk i (by omega) j hj, e, ← hv, ← Array.getElem?_toList]
      · exact (World.frozen?_of_block (w := w2) (a := ⟨g, j, none⟩) (offR _ (show g ≠ w.heap.size by omega))).trans (o3 j)
  obtain ⟨g, hg, hcp⟩ := key
  have HCP := Lib.hid hcp
  have HG := Lib.hid hg
  have HMS : Hid (∀ i (h : i < c.meths.length), c.meths[i].name.size ≤ maxLen ∧ c.meths[i].desc.size ≤ maxLen ∧ Fits c.meths[i].flags ∧ Fits c.meths[i].locals ∧ Fits c.meths[i].stack) := Lib.hid fun i hi => by
    obtain ⟨cv, e, q1, q2, q3, q4, q5, _⟩ := mR i hi
    exact ⟨q1, q2, q3, q4, q5⟩
  have HV2 : Hid (c.meths.length ≤ k2 ∧ c.meths.length * 80 ≤ 140737488355328) := Lib.hid ⟨by
    obtain ⟨_, ⟨h, h'⟩ | ⟨g, cap, cur, e, _, _, h, _⟩⟩ := hv2
    · omega
    · injection e with _ _ e; omega, mn3⟩
  have HS := Lib.hid hS
  clear hg hcp c0 c1 c2 c3 c4 c5 fz2 fz5 cel b0 r0 f0 hv1 hb1 hifs hi hm hm1 mR mk ml mc' hv2 cssm iR ik il ic' cssi bx1 offB hB1 hifs1 rs1 fr1 hb0 hw0 hb2 fzW fz
  go_wp2_with fail
  rw [← hwr]
  clear cel2 d5 fz2' gz5 hwr
  go_loopg [15] c.meths.length (fun gk u wr => ∃ k : Nat, k + gk = c.meths.length ∧ u = .int .i64 k ∧ Hid (CopyAt w S c g w1.heap.size w2.heap.size (.slice a1 c.ifaces.length k1) (.slice a2 c.meths.length k2) k wr))
  case atStart => exact ⟨0, Nat.zero_add _, rfl, HCP⟩
  case round =>
    clear HCP
    obtain ⟨k, hk, rfl, HC⟩ := hrel
    by_cases hlt : k < c.meths.length
    · have hlt' : (k : Int) < (c.meths.length : Int) := by omega
      obtain rfl := HG.out (by omega)
      have hbt : wr.cell? ⟨w.heap.size, 5, none⟩ = some (.slice (some ⟨g, 0, none⟩) c.meths.length k2) := HC.out.box 5 _ rfl
      obtain ⟨cv, r1, _, r3⟩ := HC.out.row k hlt
      have r3' := r3 (Nat.le_refl _)
      obtain ⟨ca, cc, rfl, _⟩ := id r3'
      have hct : wr.cell? ⟨g, k * 6 + 5, none⟩ = some (.slice ca c.meths[k].code.length cc) := r1 5 _ rfl
      have hfz := HC.out.thaw (by omega) (k * 6 + 5)
      have HCL := Lib.hid (clone_insts (w := wr.drew) (r3'.alike fun _ _ => rfl))
      clear r1 r3 r3'
      have hgB : g ≠ w.heap.size := by have := HC.out.at_ (by omega); have := HC.out.size; omega
      go_wp2_with fail
      go_region_with (first | (go_at_call 62; refine HCL.out.mono ?_; rintro e w' ⟨a', c', rfl, hSl, hB⟩; (have kbt : w'.cell? ⟨w.heap.size, 5, none⟩ = _ := below_cell' hB hbt); (have kct : w'.cell? ⟨g, k * 6 + 5, none⟩ = _ := below_cell' hB hct); (have kfz : w'.frozen? ⟨g, k * 6 + 5, none⟩ = false := by rw [World.frozen?_of_block (w := wr) (hB.block _ (World.block_lt_of_cell? _ _ hct))]; exact hfz)))
      all_goals
        have FIN := Lib.hid (HC.out.drew.next hB hlt hS hSl)
        clear hSl hB kbt kct kfz hbt hct hfz HC
        go_wp2
        go_roundg (c.meths.length - (k + 1))
        case measure => omega
        case rel => exact ⟨k + 1, by omega, by go_num, FIN⟩
    · obtain rfl : k = c.meths.length := by omega
      have q0 := HC.out.box 0 _ rfl
      have q1 := HC.out.box 1 _ rfl
      have q2 := HC.out.box 2 _ rfl
      have q3 := HC.out.box 3 _ rfl
      have q4 := HC.out.box 4 _ rfl
      have q5 := HC.out.box 5 _ rfl
      have s0 := HC.out.res 0 _ rfl
      have s1 := HC.out.res 1 _ rfl
      have s2 := HC.out.res 2 _ rfl
      have s3 := HC.out.res 3 _ rfl
      have s4 := HC.out.res 4 _ rfl
      have s5 := HC.out.res 5 _ rfl
      have t0 := HC.out.resThaw 0
      have t1 := HC.out.resThaw 1
      have t2 := HC.out.resThaw 2
      have t3 := HC.out.resThaw 3
      have t4 := HC.out.resThaw 4
      have t5 := HC.out.resThaw 5
      simp only [List.getElem_toArray, List.getElem_cons_zero, List.getElem_cons_succ] at q0 q1 q2 q3 q4 q5 s0 s1 s2 s3 s4 s5
      go_wp2
      have key := set6 (v0 := .string c.name) (v1 := .string c.super) (v2 := .slice a1 c.ifaces.length k1) (v3 := .int .i64 c.flags) (v4 := .int .i64 c.loader) (v5 := .slice a2 c.meths.length k2) s0 s1 s2 s3 s4 s5
      refine bodyPost_ret (results_cells rfl _ _ (w.heap.size + 1) [.string c.name, .string c.super, .slice a1 c.ifaces.length k1, .int .i64 c.flags, .int .i64 c.loader, .slice a2 c.meths.length k2] _ rfl (six key.1 key.2.1 key.2.2.1 key.2.2.2.1 key.2.2.2.2.1 key.2.2.2.2.2) Tryz.underlying26 rfl class_info) rfl ⟨_, rfl, ?_, ?_⟩
      · refine HC.out.done p1 p2 p3 p4 HMS.out ⟨a2, k2, rfl, HV2.out.1, HV2.out.2, HG.out⟩ (by simp) fun b hb _ => ?_
        iterate 6 rw [Below.heap_setCell _ _ _ _ (show b ≠ w.heap.size + 1 by omega)]
      · exact (((((HC.out.below.setCell (show w.heap.size ≤ w.heap.size + 1 by omega) _).setCell (show w.heap.size ≤ w.heap.size + 1 by omega) _).setCell (show w.heap.size ≤ w.heap.size + 1 by omega) _).setCell (show w.heap.size ≤ w.heap.size + 1 by omega) _).setCell (show w.heap.size ≤ w.heap.size + 1 by omega) _).setCell (show w.heap.size ≤ w.heap.size + 1 by omega) _
end Go.Proofs.YtipinmbpdgjalaaGreatDoor.Hi
